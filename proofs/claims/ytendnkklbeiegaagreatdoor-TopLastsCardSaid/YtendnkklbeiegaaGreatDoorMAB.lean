/-
  Walks: the set that spans make; its text.
-/
import Derived.Test.YtendnkklbeiegaaGreatDoorMAC
namespace Go.Proofs.YtendnkklbeiegaaGreatDoor.Al
open Go.RowKit Go.Maps Go.WideMaps Go.Shelf

/-- A span that may be, and is not empty. -/
def GoodS (x : Sp) : Prop := 0 ≤ x.1 ∧ x.1 < x.2 ∧ x.2 ≤ 4611686018427387904
theorem spright_calls (x : Sp) (h : GoodS x) (w : World) : Calls Tryz.prog 47 #[.agg #[.int .i64 x.1, .int .i64 x.2]] w fun e w' => e = .returned (.bool true) ∧ Below w.heap.size w w' := by
  obtain ⟨a, b⟩ := x
  obtain ⟨h1, h2, h3⟩ := h
  dsimp only at h1 h2 h3 ⊢
  have B1 : Hid (Below w.heap.size w (w.alloc (.cells #[.int .i64 a, .int .i64 b] 65))) := (Below.refl _ _).alloc (Nat.le_refl _) _
  have h4 : a ≤ b := by omega
  go_enter Tryz.func47, Tryz.ntmps47
  go_wp2_with fail
  go_ret
  exact ⟨rfl, B1.out⟩
def spF (x y : Sp) : Int := cmpN x.1 y.1
theorem sp_lt (x y : Sp) : ltOf spF x y = decide (x.1 < y.1) := by
  unfold ltOf spF cmpN
  by_cases h1 : x.1 < y.1
  · simp [h1]
  · by_cases h2 : y.1 < x.1 <;> simp [h1, h2]
theorem sp_swo : Sort.SWO (ltOf spF) where
  irrefl x := by rw [sp_lt]; simp
  trans x y z h1 h2 := by rw [sp_lt] at *; simp at *; omega
  ntrans x y z h1 h2 := by rw [sp_lt] at *; simp at *; omega
theorem sporder_calls (x y : Sp) (W : World) : Calls Tryz.prog 49 #[.agg #[.int .i64 x.1, .int .i64 x.2], .agg #[.int .i64 y.1, .int .i64 y.2]] W fun e w' => e = .returned (.int .i64 (spF x y)) ∧ ∃ q os', w' = Sort.grow (W.drewN q) os' := by
  obtain ⟨c, hc⟩ : ∃ c, c = spF x y := ⟨_, rfl⟩
  have u := fun w => cmpi_calls x.1 y.1 w
  rw [← hc]
  have hc' : cmpN x.1 y.1 = c := hc.symm
  rw [hc'] at u
  clear hc hc'
  obtain ⟨a1, a2⟩ := x
  obtain ⟨b1, b2⟩ := y
  dsimp only at u ⊢
  go_enter Tryz.func49, Tryz.ntmps49
  go_wp2_with (go_at_call 50; (with_reducible refine (u _).mono ?_); rintro e w' ⟨rfl, rfl⟩)
  go_ret
  exact ⟨rfl, 0, #[.cells #[.int .i64 a1, .int .i64 a2] 65, .cells #[.int .i64 b1, .int .i64 b2] 65], by rw [Sort.alloc_eq_grow, Sort.alloc_eq_grow, Sort.grow_grow]; rfl⟩
/-- The row of spans, sorted by the library. -/
theorem sortSp_calls (L : List Sp) (hL : L.length ≤ 100000) (base g cap : Nat) (w : World) (h : w.ownsRow base 65 2 (.slice (some ⟨g, 0, none⟩) L.length cap) L.length (flK sC L)) :
    Calls Tryz.prog 48 #[.slice (some ⟨g, 0, none⟩) L.length cap, .func (.func 49) #[] #[]] w fun e w' => e = .returned (.tuple #[]) ∧ ∃ L' : List Sp, L'.Perm L ∧ (∀ i j, i < j → j < L'.length → (L'.getD i default).1 ≤ (L'.getD j default).1) ∧ w'.ownsRow base 65 2 (.slice (some ⟨g, 0, none⟩) L.length cap) L.length (flK sC L') ∧ w.grownBy w' (some g) := by
  have eg : ∀ args w, (callFunc 49 args).run Tryz.prog w = .ok (.enter 49 args) w := enters_of Tryz.func49 (by kernel_rfl) rfl
  obtain ⟨hb, ht⟩ : ∃ cur, w.heap[g]? = some (.cells cur 65 (0, 0)) ∧ cur.toList.take (L.length * 2) = flK sC L := by
    rcases h.2 with ⟨h0, _⟩ | ⟨g', cap', cur, hv, _, h2, _, _, _, h6⟩
    · cases h0
    injection hv with hA
    injection hA with hA
    injection hA with hA
    subst hA
    exact ⟨cur, h2, h6⟩
  have hcon := AnyQ.slices_SortFunc Tryz.sortSpan 2 Tryz.isAgg65 Tryz.sizeOf65 sC sC_len sC_one spF sp_swo 49 #[] g 0 cap L.toArray w eg (fun _ _ _ _ x y => sporder_calls x y _) (holdsK_own sC_len ht.1 ht.2) (lt_of_block ht.1) (by simp; omega)
  rw [List.size_toArray] at hcon
  refine hcon.mono ?_
  rintro e w' ⟨rfl, d', n, os, hp, hsrt, rfl⟩
  have hperm := perm_of_permIn (d := L) (d' := d') hp
  refine ⟨rfl, d'.toList, hperm, fun i j hij hj => ?_, ?_, grown_sortedK sC 2 w g n os d'⟩
  · have hsz : d'.size = L.length := by have := hp.1; simpa using this
    have hj2 : j < d'.size := by simpa using hj
    have := hsrt i j (Nat.zero_le _) hij (by omega)
    rw [sp_lt] at this
    have e1 : d'[i]! = d'.toList.getD i default := by simp [List.getD, show i < d'.size by omega]
    have e2 : d'[j]! = d'.toList.getD j default := by simp [List.getD, hj2]
    rw [e1, e2] at this
    simpa using this
  · have := own_sortedK (n := n) (os := os) sC_len (d := L) (d' := d'.toList) hperm.length_eq h
    simpa using this
/-- What Of leaves. -/
def RetOf (w : World) (l : List Sp) (e : Ending) (w' : World) : Prop :=
  ∃ (v : Value) (L' : List Sp), e = .returned (.agg #[v]) ∧ L'.Perm l ∧ (∀ i j, i < j → j < L'.length → (L'.getD i default).1 ≤ (L'.getD j default).1) ∧ Sps w.heap.size w' v (L'.foldl gStep []) ∧ Below w.heap.size w w'
set_option maxRecDepth 100000 in
set_option maxHeartbeats 3200000 in
theorem of_calls (w : World) (A : Option Addr) (c : Nat) (l : List Sp) (h0 : 0 < l.length) (hl : l.length ≤ 10000) (hR : RV w A (flK sC l)) (hg : ∀ x ∈ l, GoodS x) :
    Calls Tryz.prog 17 #[.slice A l.length c] w (RetOf w l) := by
  have bS := Blk.new w 62 #[.slice none 0 0]
  have B1 : Below w.heap.size w (w.alloc (.cells #[.slice none 0 0] 62)) := (Below.refl _ _).alloc (Nat.le_refl _) _
  go_enter Tryz.func17, Tryz.ntmps17
  go_wp2_with fail
  obtain ⟨gS, hgS⟩ : ∃ g, g = w.heap.size := ⟨_, rfl⟩
  rw [← hgS] at bS ⊢
  have hgw : w.heap.size ≤ gS := by omega
  clear hgS
  go_loopw [3, 8] (fun v i wr => ∃ k : Nat, k ≤ l.length ∧ i = .int .i64 (k : Int) ∧ Sps (gS + 1) wr v (l.take k) ∧ Blk wr gS 62 #[.slice none 0 0] ∧ Below w.heap.size w wr) (fun _ i _ => l.length - (intOf i).toNat)
  case atStart => exact ⟨0, Nat.zero_le _, rfl, Sps.nil _ _, bS, B1⟩
  case round =>
  clear bS B1
  obtain ⟨k, hk, rfl, own, bS, B⟩ := hrel
  have hlk : (l.take k).length = k := by simp [hk]
  unfold Sps at own
  rw [hlk] at own
  obtain ⟨A1, cc, hv, hnc, hcm⟩ := own_form own
  subst hv
  by_cases hlt : k < l.length
  case neg =>
    obtain rfl : k = l.length := by omega
    have dec : decide ((l.length : Int) < (l.length : Int)) = false := decide_eq_false (by omega)
    rw [List.take_length] at own
    have hA : ∃ g, A1 = some ⟨g, 0, none⟩ := by
      rcases own.2 with ⟨_, h0⟩ | ⟨g, cap, cur, hv, _⟩
      · omega
      · injection hv with hA
        exact ⟨g, hA⟩
    obtain ⟨g, rfl⟩ := hA
    have hgS1 := (own.lt g rfl).1
    have SC := sortSp_calls l (by omega) (gS + 1) g cc wr own
    have HG : Hid (∀ (w1 : World) (L' : List Sp), L'.Perm l → w1.ownsRow (gS + 1) 65 2 (.slice (some ⟨g, 0, none⟩) l.length cc) l.length (flK sC L') → wr.grownBy w1 (some g) → Blk w1 gS 62 #[.slice none 0 0] ∧ Below w.heap.size w w1 ∧ Calls Tryz.prog 51 #[.slice (some ⟨g, 0, none⟩) l.length cc] w1 fun e w' => ∃ v, e = .returned v ∧ Sps w1.heap.size w' v (L'.foldl gStep []) ∧ Below w1.heap.size w1 w') := fun w1 L' hp o g1 => by
      refine ⟨(g1.block gS bS.lt fun q => by have := Option.some.inj q; omega).trans bS, Below.grown B g1 B.size fun j hj => by have := Option.some.inj hj; omega, ?_⟩
      rw [← hp.length_eq] at o ⊢
      exact gather_calls w1 _ cc L' (by rw [hp.length_eq]; exact hl) (Sps.rv o)
    clear hlk own bS B
    go_wp2_with (first
      | (go_at_call 48; (with_reducible refine SC.mono ?_); rintro e w1 ⟨rfl, L', hp, hs, o1, g1⟩; obtain ⟨bS1, B1, GC⟩ := HG.out w1 L' hp o1 g1; clear o1 g1)
      | (have _q := GC; go_at_call 51; (with_reducible refine GC.mono ?_); rintro e w2 ⟨v2, rfl, ow2, b2⟩; obtain ⟨A2, c2, hv2, _, _⟩ := own_form ow2; subst hv2; have bS2 := bS1.below b2 bS1.lt; have x0 := bS2.at_ (i := 0) (v := .slice none 0 0) rfl; have x0f := bS2.frozen 0))
    have bT : ((w2.setCell ⟨gS, 0, none⟩ (.slice A2 (L'.foldl gStep []).length c2)).heap[gS]?) = some (.cells #[.slice A2 (L'.foldl gStep []).length c2] 62) := bS2.set_ 0 _
    have HF : Hid (RetOf w l (.returned (.agg #[.slice A2 (L'.foldl gStep []).length c2])) (w2.setCell ⟨gS, 0, none⟩ (.slice A2 (L'.foldl gStep []).length c2))) := by
      have hgl := bS1.lt
      refine ⟨_, L', rfl, hp, hs, ?_, ?_⟩
      · have o2 := own_frame (w' := w2.setCell ⟨gS, 0, none⟩ (.slice A2 (L'.foldl gStep []).length c2)) ow2 fun j hj => heap_setCell_other w2 ⟨gS, 0, none⟩ j _ (fun q => by
          have := (ow2.lt j hj).1
          have q2 : j = gS := q
          omega)
        refine ⟨o2.1, ?_⟩
        rcases o2.2 with h | ⟨g', cap', cur', h1, h2, h3⟩
        · exact .inl h
        · exact .inr ⟨g', cap', cur', h1, Nat.le_trans B1.size h2, h3⟩
      · exact (B1.trans (b2.mono B1.size)).setCell hgw _
    clear HG hp hs ow2 b2 bS1 B1 bS2 x0 x0f SC
    refine bodyPost_ret (results_cell_row rfl _ _ gS 62 #[.slice A2 (L'.foldl gStep []).length c2] (0, 0) _ (by kernel_rfl) bT Tryz.underlying62 (by kernel_rfl) (by kernel_rfl)) rfl ?_
    exact HF.out
  have dec : decide ((k : Int) < (l.length : Int)) = true := decide_eq_true (by omega)
  have dec' : decide (k < l.length) = true := decide_eq_true hlt
  obtain ⟨b, off, rfl, hbs, e0, e1⟩ := sp_at (hR.below ⟨B.os, B.tape, B.output, B.size, B.block⟩) hlt
  have hgd := hg _ (List.getElem_mem hlt)
  have htk : l.take (k + 1) = l.take k ++ [l[k]] := List.take_succ_eq_append_getElem hlt
  generalize l[k] = x at *
  have RC := fun w => spright_calls x hgd w
  obtain ⟨x1, x2⟩ := x
  have hx12 : x1 < x2 := hgd.2.1
  have dx : decide (x1 < x2) = true := decide_eq_true hx12
  dsimp only at RC e0 e1
  go_upto_region 5 with fail
  have bP0 := Blk.new wr 65 #[.int .i64 x1, .int .i64 x2]
  have dP := (Below.refl wr.heap.size wr).alloc (Nat.le_refl _) (.cells #[.int .i64 x1, .int .i64 x2] 65)
  revert bP0 dP
  generalize (wr.alloc (.cells #[.int .i64 x1, .int .i64 x2] 65)) = w2
  intro bP0 dP
  have own2 := own_below own dP fun j hj => (own.lt j hj).2
  have bS2 := bS.below dP bS.lt
  have B2 : Below w.heap.size w w2 := B.trans (dP.mono B.size)
  obtain ⟨gP, hgP⟩ : ∃ g, g = wr.heap.size := ⟨_, rfl⟩
  rw [← hgP] at bP0 ⊢
  clear hgP own bS B dP e0 e1 hbs hgd
  have KB : Hid (∀ w', Below w2.heap.size w2 w' → w'.ownsRow (gS + 1) 65 2 (.slice A1 k cc) k (flK sC (l.take k)) ∧ Blk w' gS 62 #[.slice none 0 0] ∧ Below w.heap.size w w' ∧ Blk w' gP 65 #[.int .i64 x1, .int .i64 x2]) := fun w' d => ⟨own_below own2 d fun j hj => (own2.lt j hj).2, bS2.below d bS2.lt, B2.trans (d.mono B2.size), bP0.below d bP0.lt⟩
  have p0 := bP0.at_ (i := 0) (v := .int .i64 x1) rfl
  have p1 := bP0.at_ (i := 1) (v := .int .i64 x2) rfl
  clear own2 bS2 B2 bP0
  go_upto_region 6 with (go_at_call 47; (with_reducible refine (RC _).mono ?_); rintro e w3 ⟨rfl, b3⟩; have p0' := (KB.out w3 b3).2.2.2.at_ (i := 0) (v := .int .i64 x1) rfl; have p1' := (KB.out w3 b3).2.2.2.at_ (i := 1) (v := .int .i64 x2) rfl)
  obtain ⟨own3, bS3, B3, bP3⟩ := KB.out w3 b3
  have rv1 : RV (w3.alloc (.cells #[.int .i64 x1, .int .i64 x2] 65)) (some ⟨w3.heap.size, 0, none⟩) (sC (x1, x2)) := RV.new w3 (sC (x1, x2)) 65 (0, 0)
  have hgl := bS3.lt
  clear KB RC p0 p1 b3
  with_reducible refine wp_region_lit ?_
  with_reducible refine wpList_cutAt 3 ?_
  simp only [List.take_succ_cons, List.take_zero, List.drop_succ_cons, List.drop_zero]
  go_wp2_with fail
  with_reducible refine CutQ.go_ ?_
  with_reducible refine wpList_append_rv el_spn (by kernel_rfl) (.tmp 21) (.tmp 23) rfl (gS + 1) (.slice A1 k cc) k (flK sC (l.take k)) (by kernel_rfl) (own3.alloc _) (some ⟨w3.heap.size, 0, none⟩) 1 1 (sC (x1, x2)) (by kernel_rfl) (by kernel_rfl) rv1 (sC_one _) ?f2 ?f3 ?f4 ?_
  case f2 => unfold maxLen; omega
  case f3 => omega
  case f4 => have := B3.size; simp; omega
  intro v6 w6 own6 gr6 hv6
  have own7 : Sps (gS + 1) w6 v6 (l.take (k + 1)) := by
    show w6.ownsRow _ _ _ _ _ _
    have e1 : (l.take (k + 1)).length = k + 1 := by simp; omega
    rw [e1, htk, flK_append, flK_one]
    exact own6
  have bS6 : Blk w6 gS 62 #[.slice none 0 0] := (gr6.block gS (bS3.alloc (.cells #[.int .i64 x1, .int .i64 x2] 65)).lt fun q => by have := (own3.lt gS q.symm).1; omega).trans (bS3.alloc _)
  have B6 : Below w.heap.size w w6 := Below.grown (B3.alloc B3.size _) gr6 (Nat.le_trans B3.size (by simp)) fun j hj => by have := (own3.lt j hj).1; omega
  clear own6 gr6 hv6 own3 bS3 B3 bP3 rv1 p0' p1' htk hlk
  go_frame
  go_wp2_with fail
  exact ⟨⟨k + 1, by omega, by rw [show ((k : Int) + 1) = ((k + 1 : Nat) : Int) by omega], own7, bS6, B6⟩, by
    rw [show ((k : Int) + 1) = ((k + 1 : Nat) : Int) by omega]
    simp only [intOf, Int.toNat_natCast]
    omega⟩
end Go.Proofs.YtendnkklbeiegaaGreatDoor.Al
namespace Go.Proofs.YtendnkklbeiegaaGreatDoor.Al
open Go.RowKit Go.Maps Go.WideMaps Go.Shelf

theorem dd2 : Lib.decDigits 2 = [50] := by kernel_rfl
theorem dd5 : Lib.decDigits 5 = [53] := by kernel_rfl
theorem open25 (w : World) : Calls Tryz.prog 102 #[.agg #[.int .i64 2, .int .i64 5]] w fun e w' => e = .returned (.bool false) ∧ Below w.heap.size w w' := by
  have B1 : Hid (Below w.heap.size w (w.alloc (.cells #[.int .i64 2, .int .i64 5] 65))) := (Below.refl _ _).alloc (Nat.le_refl _) _
  go_enter Tryz.func102, Tryz.ntmps102
  go_wp2
  go_ret
  exact ⟨rfl, B1.out⟩
set_option maxRecDepth 100000 in
set_option maxHeartbeats 1600000 in
theorem spantext25 (w : World) : Calls Tryz.prog 54 #[.agg #[.int .i64 2, .int .i64 5]] w fun e w' => e = .returned (.string (bstr [50, 45, 53])) ∧ Below w.heap.size w w' := by
  have RC := fun w => spright_calls (2, 5) ⟨by decide, by decide, by decide⟩ w
  have OC := fun w => open25 w
  have F2 : ∀ w, Calls Tryz.prog 71 #[.int .i64 2, .int .i64 10] w fun e w' => e = .returned (.string (bstr [50])) ∧ w = w' := fun w => by
    have h := fmt_calls 2 (by omega) w
    rw [dd2] at h
    exact h.mono fun _ _ h => ⟨h.1, h.2.symm⟩
  have F5 : ∀ w, Calls Tryz.prog 71 #[.int .i64 5, .int .i64 10] w fun e w' => e = .returned (.string (bstr [53])) ∧ w = w' := fun w => by
    have h := fmt_calls 5 (by omega) w
    rw [dd5] at h
    exact h.mono fun _ _ h => ⟨h.1, h.2.symm⟩
  have bP := Blk.new w 65 #[.int .i64 2, .int .i64 5]
  have B1 := (Below.refl w.heap.size w).alloc (Nat.le_refl _) (.cells #[.int .i64 2, .int .i64 5] 65)
  have z2 : (bstr [50]).size = 1 := rfl
  have z3 : (bstr [50, 45]).size = 2 := rfl
  have z5 : (bstr [53]).size = 1 := rfl
  have a1 : bstr [50] ++ (⟨#[45]⟩ : ByteArray) = bstr [50, 45] := by rw [bstr_lit, bstr_add]; rfl
  have a2 : bstr [50, 45] ++ bstr [53] = bstr [50, 45, 53] := by rw [bstr_add]; rfl
  go_enter Tryz.func54, Tryz.ntmps54
  go_upto_region 1 with fail
  revert bP B1
  generalize (w.alloc (.cells #[.int .i64 2, .int .i64 5] 65)) = w1
  intro bP B1
  obtain ⟨gP, hgP⟩ : ∃ g, g = w.heap.size := ⟨_, rfl⟩
  rw [← hgP] at bP ⊢
  clear hgP
  have p0 := bP.at_ (i := 0) (v := .int .i64 2) rfl
  have p1 := bP.at_ (i := 1) (v := .int .i64 5) rfl
  go_wp2_with (first
    | (go_at_call 47; (with_reducible refine (RC _).mono ?_); rintro e w2 ⟨rfl, b2⟩; have bP2 := bP.below b2 bP.lt; have B2 := B1.trans (b2.mono B1.size); have q0 := bP2.at_ (i := 0) (v := .int .i64 2) rfl; have q1 := bP2.at_ (i := 1) (v := .int .i64 5) rfl)
    | (go_at_call 102; (with_reducible refine (OC _).mono ?_); rintro e w3 ⟨rfl, b3⟩; have bP3 := bP2.below b3 bP2.lt; have B3 := B2.trans (b3.mono B2.size); have r1 := bP3.at_ (i := 1) (v := .int .i64 5) rfl)
    | (have _q := B3; go_at_call 71; (with_reducible refine (F5 _).mono ?_); rintro e w' ⟨rfl, rfl⟩)
    | (go_at_call 71; (with_reducible refine (F2 _).mono ?_); rintro e w' ⟨rfl, rfl⟩))
  go_ret
  exact ⟨rfl, B3⟩
set_option maxRecDepth 100000 in
set_option maxHeartbeats 1600000 in
theorem settext25 (A : Option Addr) (c : Nat) (w : World) (hR : RV w A (flK sC [(2, 5)])) : Calls Tryz.prog 18 #[.agg #[.slice A 1 c]] w fun e w' => e = .returned (.string (bstr [50, 45, 53])) ∧ Below w.heap.size w w' := by
  have TC := fun w => spantext25 w
  have bS := Blk.new w 62 #[.slice A 1 c]
  have B1 := (Below.refl w.heap.size w).alloc (Nat.le_refl _) (.cells #[.slice A 1 c] 62)
  go_enter Tryz.func18, Tryz.ntmps18
  go_upto_region 3 with fail
  revert bS B1
  generalize (w.alloc (.cells #[.slice A 1 c] 62)) = w1
  intro bS B1
  obtain ⟨gS, hgS⟩ : ∃ g, g = w.heap.size := ⟨_, rfl⟩
  rw [← hgS] at bS ⊢
  have hgw : w.heap.size ≤ gS := by omega
  clear hgS
  have bd := bld_new w1
  have B2 := B1.alloc B1.size (.cells #[.pointer none, .slice none 0 0] 137)
  have bS2 := bS.alloc (.cells #[.pointer none, .slice none 0 0] 137)
  have hw1 := B1.size
  have hsz2 : w1.heap.size ≤ (w1.alloc (.cells #[.pointer none, .slice none 0 0] 137)).heap.size := by simp
  go_upto_region 4 with fail
  revert bd B2 bS2 hsz2
  generalize (w1.alloc (.cells #[.pointer none, .slice none 0 0] 137)) = w2
  obtain ⟨gB, hgB⟩ : ∃ g, g = w1.heap.size := ⟨_, rfl⟩
  rw [← hgB]
  have hgBw : w.heap.size ≤ gB := by omega
  clear hgB B1 bS hw1
  intro bd B2 bS2 hsz2
  have s0 := bS2.at_ (i := 0) (v := .slice A 1 c) rfl
  go_wp2_with fail
  clear s0
  go_loopw [13] (fun i wr => ∃ k : Nat, k ≤ 1 ∧ i = .int .i64 (k : Int) ∧ Bld gB gB (if k = 0 then [] else [50, 45, 53]) wr ∧ Below w.heap.size w wr ∧ gB ≤ wr.heap.size) (fun i _ => 1 - (intOf i).toNat)
  case atStart => exact ⟨0, Nat.zero_le _, rfl, bd, B2, hsz2⟩
  case round =>
  clear bd B2 bS2 hsz2
  obtain ⟨k, hk, rfl, bd, B, hgl⟩ := hrel
  by_cases hlt : k < 1
  · obtain rfl : k = 0 := by omega
    rw [if_pos rfl] at bd
    obtain ⟨b, off, rfl, hbs, e0, e1⟩ := sp_at (hR.below B) (i := 0) (by simp)
    rw [show ((0 : Nat) : Int) = 0 from rfl]
    rw [show off + 0 * 2 = off by omega] at e0
    rw [show off + 0 * 2 + 1 = off + 1 by omega] at e1
    have f0 : wr.cell? ⟨b, off, none⟩ = some (.int .i64 2) := e0
    have f1 : wr.cell? ⟨b, off + 1, none⟩ = some (.int .i64 5) := e1
    clear e0 e1
    go_upto_region 7 with fail
    have bP0 := Blk.new wr 65 #[.int .i64 2, .int .i64 5]
    have dP := (Below.refl wr.heap.size wr).alloc (Nat.le_refl _) (.cells #[.int .i64 2, .int .i64 5] 65)
    revert bP0 dP
    generalize (wr.alloc (.cells #[.int .i64 2, .int .i64 5] 65)) = w2
    intro bP0 dP
    have bd2 : Bld gB gB [] w2 := bld_below bd dP
    have B2 : Below w.heap.size w w2 := B.trans (dP.mono B.size)
    have hg2 : gB ≤ w2.heap.size := Nat.le_trans hgl dP.size
    obtain ⟨gP, hgP⟩ : ∃ g, g = wr.heap.size := ⟨_, rfl⟩
    rw [← hgP] at bP0 ⊢
    have p0 := bP0.at_ (i := 0) (v := .int .i64 2) rfl
    have p1 := bP0.at_ (i := 1) (v := .int .i64 5) rfl
    have HW : Hid (∀ w3, Below w2.heap.size w2 w3 → Below w.heap.size w w3 ∧ gB ≤ w3.heap.size ∧ Calls Tryz.prog 53 #[.pointer (some ⟨gB, 0, none⟩), .string (bstr [50, 45, 53])] w3 fun e w' => (∃ v, e = .returned v) ∧ Bld gB gB [50, 45, 53] w' ∧ Below gB w3 w') := fun w3 d => ⟨B2.trans (d.mono B2.size), Nat.le_trans hg2 d.size, wstr_calls gB gB [] [50, 45, 53] w3 (bld_below bd2 d) (by simp) (Nat.le_trans hg2 d.size)⟩
    clear hgP bd B hgl bd2 B2 dP hbs f0 f1 bP0 hg2
    go_wp2_with (first
      | (go_at_call 54; (with_reducible refine (TC _).mono ?_); rintro e w3 ⟨rfl, b3⟩; obtain ⟨B3, hg3, WC⟩ := HW.out w3 b3)
      | (go_at_call 53; (with_reducible refine WC.mono ?_); rintro e w4 ⟨⟨v4, rfl⟩, bd4, b4⟩))
    have hg4 := Nat.le_trans hg3 b4.size
    exact ⟨⟨1, by omega, rfl, by rw [if_neg (by omega)]; exact bd4, B3.trans (b4.mono hgBw), hg4⟩, by decide⟩
  · obtain rfl : k = 1 := by omega
    rw [if_neg (by omega)] at bd
    rw [show ((1 : Nat) : Int) = 1 from rfl]
    have SC := bstring_calls gB gB [50, 45, 53] wr bd hgl
    go_wp2_with (go_at_call 55; (with_reducible refine SC.mono ?_); rintro e w2 ⟨rfl, b2⟩)
    go_ret
    exact ⟨rfl, B.trans (b2.mono hgBw)⟩
set_option maxRecDepth 100000 in
set_option maxHeartbeats 1600000 in
theorem alive_calls (w : World) : Calls Tryz.prog 5 #[] w fun e w' => e = .returned (.bool true) ∧ Below w.heap.size w w' := by
  have OC := of_calls (w.alloc (.cells #[.int .i64 2, .int .i64 4, .int .i64 4, .int .i64 5] 65)) (some ⟨w.heap.size, 0, none⟩) 2 [(2, 4), (4, 5)] (by simp) (by simp) (RV.new w (flK sC [(2, 4), (4, 5)]) 65 (0, 0)) (fun x hx => by
    rcases List.mem_cons.1 hx with rfl | hx
    · exact ⟨by decide, by decide, by decide⟩
    · rw [List.mem_singleton.1 hx]; exact ⟨by decide, by decide, by decide⟩)
  have B1 := (Below.refl w.heap.size w).alloc (Nat.le_refl _) (.cells #[.int .i64 2, .int .i64 4, .int .i64 4, .int .i64 5] 65)
  have OC2 : Calls Tryz.prog 17 #[.slice (some ⟨w.heap.size, 0, none⟩) 2 2] (w.alloc (.cells #[.int .i64 2, .int .i64 4, .int .i64 4, .int .i64 5] 65)) fun e w' => ∃ A c, e = .returned (.agg #[.slice A 1 c]) ∧ RV w' A (flK sC [(2, 5)]) ∧ Below w.heap.size w w' := by
    refine OC.mono ?_
    rintro e w' ⟨v, L', rfl, hp, hs, ow, b⟩
    have hL : L' = [(2, 4), (4, 5)] := by
      have hlen := hp.length_eq
      obtain ⟨x, y, rfl⟩ : ∃ x y, L' = [x, y] := by
        match L', hlen with
        | [x, y], _ => exact ⟨x, y, rfl⟩
      have h1 := hs 0 1 (by omega) (by simp)
      have hx : x ∈ [((2 : Int), (4 : Int)), (4, 5)] := hp.mem_iff.1 (by simp)
      have hy : y ∈ [((2 : Int), (4 : Int)), (4, 5)] := hp.mem_iff.1 (by simp)
      have hnd : [x, y].Nodup := hp.nodup_iff.2 (by decide)
      have h1' : x.1 ≤ y.1 := h1
      have hne : x ≠ y := by simpa using hnd
      rcases List.mem_cons.1 hx with rfl | hx <;> rcases List.mem_cons.1 hy with rfl | hy
      · exact absurd rfl hne
      · rw [List.mem_singleton.1 hy]
      · rw [List.mem_singleton.1 hx] at h1'
        exact absurd h1' (by decide)
      · exact absurd ((List.mem_singleton.1 hx).trans (List.mem_singleton.1 hy).symm) hne
    have hg : L'.foldl gStep [] = [(2, 5)] := by rw [hL]; decide
    rw [hg] at ow
    obtain ⟨A, c, rfl, _⟩ := own_form ow
    exact ⟨A, c, rfl, Sps.rv ow, B1.trans (b.mono B1.size)⟩
  clear OC
  have SC := fun A c w' (h : RV w' A (flK sC [(2, 5)])) => settext25 A c w' h
  have eq : ((bstr [50, 45, 53]).toList == [50, 45, 53]) = true := by rw [bstr_list]; rfl
  go_enter Tryz.func5, Tryz.ntmps5
  go_wp2_with (first
    | (go_at_call 17; (with_reducible refine OC2.mono ?_); rintro e w2 ⟨A, c, rfl, rv, B2⟩)
    | (go_at_call 18; (with_reducible refine (SC _ _ _ rv).mono ?_); rintro e w3 ⟨rfl, b3⟩))
  go_ret
  exact ⟨rfl, B2.trans (b3.mono B2.size)⟩
end Go.Proofs.YtendnkklbeiegaaGreatDoor.Al
