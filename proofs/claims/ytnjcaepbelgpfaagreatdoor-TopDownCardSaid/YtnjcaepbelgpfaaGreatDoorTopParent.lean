/-
  Walks: who a child asks; a parent that goes down, or is up again; the order of nodes.
-/
import Derived.Test.YtnjcaepbelgpfaaGreatDoorTopNew
namespace Go.Proofs.YtnjcaepbelgpfaaGreatDoor
open Go.RowKit Go.Maps Go.WideMaps TopP Go.Shelf

/-- The number that a name says. -/
def numOf (t : Txt) : Nat := ((List.range 10).find? fun q => decide (nm q = t)).getD 0
theorem numOf_nm : ∀ q, q < 10 → numOf (nm q) = q := of_decide_eq_true (by kernel_rfl)
/-- What Parent tells. -/
def upV (x : Option Int) : Ending := match x with
  | some q => .returned (.tuple #[.int .i64 q, .bool true])
  | none => .returned (.tuple #[.int .i64 0, .bool false])
theorem bstr_cut (l : List UInt8) (i j : Nat) : (bstr l).extract i j = bstr ((l.drop i).take (j - i)) := by
  unfold bstr
  apply ByteArray.ext
  simp [ByteArray.data_extract]
theorem nm_cut (q : Nat) (hq : q < 10) : (bstr (nm q)).extract 1 2 = bstr (Lib.decDigits q) := by
  rw [bstr_cut]
  have h := (atoi_dec q hq).2.1
  show bstr ((Lib.decDigits q).take 1) = _
  rw [List.take_of_length_le (by omega)]
theorem ownGo_len (l : List Txt) (f m : Nat) : ∀ (r i : Nat) (out : List Txt), (ownGo l f m r i out).length ≤ out.length + r
  | 0, _, _ => Nat.le_refl _
  | r + 1, i, out => by
    unfold ownGo
    split
    · omega
    · refine Nat.le_trans (ownGo_len l f m r (i + 1) _) ?_
      split
      · omega
      · simp; omega
theorem ownersOf_len (L : List Pt) (o : Txt) (m : Nat) : (ownersOf L o m).length ≤ L.length := by
  unfold ownersOf ownersL
  refine Nat.le_trans (ownGo_len _ _ _ _ _ _) ?_
  simp
set_option maxRecDepth 100000 in
set_option maxHeartbeats 1600000 in
theorem parent_calls (w : World) (T n c r db m ks : Nat) (L : List Pt) (dn : Int → Bool) (h : TierR w T n c r db m ks L dn) (hc : 1 ≤ c) (hn : n ≤ 100) (hk : ks ≤ 100) (hL : L.length ≤ 1000) (hs : ∀ p ∈ L, p.2.length ≤ 1000) (o : Txt) (ho : o.length ≤ 1000) (hO : ∀ x ∈ ownersOf L o (min n ks), ∃ q, q < 10 ∧ x = nm q) :
    Calls Tryz.prog 6 #[.pointer (some ⟨T, 0, none⟩), .int .i64 0, .string (bstr o)] w fun e w' => e = upV (firstUp dn ((ownersOf L o (min n ks)).map fun t => (numOf t : Int))) ∧ Below w.heap.size w w' := by
  obtain ⟨OL, hOL⟩ : ∃ l, l = ownersOf L o (min n ks) := ⟨_, rfl⟩
  have OC := owners_calls o ho n (by omega) w.drew r ks L h.ring (by omega) (by omega) hs
  have hOl : OL.length ≤ 1000 := by rw [hOL]; exact Nat.le_trans (ownersOf_len L o _) hL
  rw [← hOL] at OC hO ⊢
  clear hOL hs
  obtain ⟨res, hres⟩ : ∃ x, x = upV (firstUp dn (OL.map fun t => (numOf t : Int))) := ⟨_, rfl⟩
  rw [← hres]
  replace hres := Lib.hid hres
  have c0 := h.blk.at_ (i := 0) (v := .int .i64 n) rfl
  have c1 := h.blk.at_ (i := 1) (v := .int .i64 c) rfl
  have c2 := h.blk.at_ (i := 2) (v := .pointer (some ⟨r, 0, none⟩)) rfl
  have d1 : ¬ ((c : Int) ≤ 0) := by omega
  go_enter Tryz.func6, Tryz.ntmps6
  go_upto_region 3 with fail
  go_region_held (fun wq => wq.cell? ⟨T, 0, none⟩ = some (.int .i64 n) ∧ wq.cell? ⟨T, 2, none⟩ = some (.pointer (some ⟨r, 0, none⟩))) (first | exact ⟨c0, c2⟩ | exact ⟨f0, f2⟩) (first
    | (go_at_call 14; (with_reducible refine OC.mono ?_); rintro e w1 ⟨A, cp, rfl, rv1, b1⟩; have t1 := h.blk.below (w' := w1) ⟨b1.os, b1.tape, b1.output, b1.size, b1.block⟩ h.blk.lt; have f0 := t1.at_ (i := 0) (v := .int .i64 n) rfl; have f2 := t1.at_ (i := 2) (v := .pointer (some ⟨r, 0, none⟩)) rfl))
  have B1 : Below w.heap.size w w1 := ⟨b1.os, b1.tape, b1.output, b1.size, b1.block⟩
  have h1 := h.below B1
  clear OC c0 c1 c2 f0 f2 t1 b1 d1 h
  go_wp2_with fail
  go_loopw [40] (fun i wr => ∃ k : Nat, k ≤ OL.length ∧ i = .int .i64 (k : Int) ∧ Hid (res = upV (firstUp dn ((OL.drop k).map fun t => (numOf t : Int)))) ∧ Below w1.heap.size w1 wr) (fun i _ => OL.length - (intOf i).toNat)
  case atStart => exact ⟨0, Nat.zero_le _, rfl, by simpa using hres, Below.refl _ _⟩
  case round =>
  clear hres
  obtain ⟨k, hk2, rfl, hR, B2⟩ := hrel
  by_cases hlt : k < OL.length
  case neg =>
    obtain rfl : k = OL.length := by omega
    have dec : decide ((OL.length : Int) < (OL.length : Int)) = false := decide_eq_false (by omega)
    have hR2 : Hid (res = .returned (.tuple #[.int .i64 0, .bool false])) := by show _ = _; rw [hR.out, List.drop_length]; rfl
    have HB := Lib.hid (B1.trans (B2.mono B1.size))
    clear hR B1 B2 h1 rv1
    go_wp2_with fail
    go_ret2
    exact ⟨by rw [hR2.out]; rfl, HB.out⟩
  have dec : decide ((k : Int) < (OL.length : Int)) = true := decide_eq_true (by omega)
  have dec' : decide (k < OL.length) = true := decide_eq_true hlt
  obtain ⟨b, off, rfl, hb, e0⟩ := RV.at_ (rv1.below ⟨B2.os, B2.tape, B2.output, B2.size, B2.block⟩) (k := k) (by rw [List.length_map]; exact hlt)
  rw [List.getElem_map] at e0
  obtain ⟨q, hq, hx⟩ := hO _ (List.getElem_mem hlt)
  rw [hx] at e0
  have hd : Hid (res = upV (if dn (q : Int) then firstUp dn ((OL.drop (k + 1)).map fun t => (numOf t : Int)) else some (q : Int))) := by
    show _ = _
    rw [hR.out, List.drop_eq_getElem_cons hlt, hx, List.map_cons, numOf_nm q hq]
    unfold firstUp
    rw [List.find?_cons]
    cases dn (q : Int) <;> rfl
  clear hR hx
  have AC := fun w => atoi_calls q hq w
  have hcut := nm_cut q hq
  have hsz : (bstr (nm q)).size = 2 := nm_len q hq
  have h2 := h1.below B2
  have c3 := fun w' (d : Below wr.heap.size wr w') => (h2.blk.below d h2.blk.lt).at_ (i := 3) (v := .map (some db)) rfl
  obtain ⟨F, hF, hF2⟩ := h2.down
  have LK := fun w' (d : Below wr.heap.size wr w') => (hF.below d hF.lt).look_run (t := 35) intKeyed Tryz.underlying35 (.bool false) zeroB (key_iV (a := (q : Int)) ⟨by omega, by omega⟩)
  have e0' : wr.cell? ⟨b, off + k, none⟩ = some (.string (bstr (nm q))) := e0
  rw [hF2 (q : Int)] at LK
  clear e0 hF hF2 F h2
  have HB := fun w' (d : Below wr.heap.size wr w') => B1.trans ((B2.trans (d.mono B2.size)).mono B1.size)
  have HB2 := fun w' (d : Below wr.heap.size wr w') => B2.trans (d.mono B2.size)
  replace HB := Lib.hid HB
  replace HB2 := Lib.hid HB2
  cases hdn : dn (q : Int)
  · rw [hdn] at hd LK
    have hd2 : Hid (res = .returned (.tuple #[.int .i64 q, .bool true])) := hd
    simp only [Bool.false_eq_true, if_false, Option.getD_none] at LK
    clear hd B1 B2 rv1 h1 hdn
    go_wp2_with (go_at_call 15; (with_reducible refine (AC _).mono ?_); rintro e w3 ⟨rfl, b3⟩; have c3' := c3 w3 b3; have LK' := LK w3 b3)
    go_ret2
    exact ⟨by rw [hd2.out]; rfl, HB.out w3 b3⟩
  · rw [hdn] at hd LK
    have hd2 : Hid (res = upV (firstUp dn ((OL.drop (k + 1)).map fun t => (numOf t : Int)))) := hd
    simp only [if_true, Option.getD_some] at LK
    clear hd B1 B2 rv1 h1 hdn
    go_wp2_with (go_at_call 15; (with_reducible refine (AC _).mono ?_); rintro e w3 ⟨rfl, b3⟩; have c3' := c3 w3 b3; have LK' := LK w3 b3)
    refine ⟨⟨k + 1, by omega, by rw [show ((k : Int) + 1) = ((k + 1 : Nat) : Int) by omega], hd2, HB2.out w3 b3⟩, ?_⟩
    rw [show ((k : Int) + 1) = ((k + 1 : Nat) : Int) by omega]
    simp only [intOf, Int.toNat_natCast]
    omega
set_option maxRecDepth 100000 in
theorem parental_calls (w : World) (T n c r db g : Nat) (h : Blk w T 38 #[.int .i64 n, .int .i64 c, .pointer (some ⟨r, 0, none⟩), .map (some db)]) (h1 : c ≤ g) (h2 : g < n) :
    Calls Tryz.prog 16 #[.pointer (some ⟨T, 0, none⟩), .int .i64 g] w fun e w' => e = .returned (.bool true) ∧ w = w' := by
  have c0 := h.at_ (i := 0) (v := .int .i64 n) rfl
  have c1 := h.at_ (i := 1) (v := .int .i64 c) rfl
  have d1 : ((c : Int) ≤ (g : Int)) := by omega
  have d2 : ((g : Int) < (n : Int)) := by omega
  go_enter Tryz.func16, Tryz.ntmps16
  go_wp2_with fail
  go_ret
  exact ⟨rfl, rfl⟩
set_option maxRecDepth 100000 in
set_option maxHeartbeats 1600000 in
/-- A parent goes down. -/
theorem down_calls (w : World) (B T n c r db m ks : Nat) (L : List Pt) (h : TierR w T n c r db m ks L (fun _ => false)) (hm : m ≤ 100) (hB : B ≤ db) (hdT : db < T) (_hTr : T < r) (hRB : ∀ w', w.grownBy w' (some db) → RingR w' r ks L) (g : Nat) (h1 : c ≤ g) (h2 : g < n) (hn : n ≤ 100) (hBw : B ≤ w.heap.size) :
    Calls Tryz.prog 7 #[.pointer (some ⟨T, 0, none⟩), .int .i64 g, .bool true] w fun e w' => e = .returned (.int .i64 0) ∧ TierR w' T n c r db (m + 1) ks L (fun q => decide (q = (g : Int))) ∧ Below B w w' ∧ w.grownBy w' (some db) := by
  have c0 := h.blk.at_ (i := 0) (v := .int .i64 n) rfl
  have c1 := h.blk.at_ (i := 1) (v := .int .i64 c) rfl
  have c3 := h.blk.at_ (i := 3) (v := .map (some db)) rfl
  obtain ⟨F, hF, hF2⟩ := h.down
  have d1 : ((c : Int) ≤ (g : Int)) := by omega
  have d2 : ((g : Int) < (n : Int)) := by omega
  have kg := key_iV (a := (g : Int)) ⟨by omega, by omega⟩
  go_enter Tryz.func7, Tryz.ntmps7
  have PC := parental_calls w T n c r db g h.blk h1 h2
  go_upto_region 4 with (go_at_call 16; (with_reducible refine PC.mono ?_); rintro e w' ⟨rfl, rfl⟩)
  with_reducible refine wp_region_lit ?_
  with_reducible refine wpList_cutAt 5 ?_
  simp only [List.take_succ_cons, List.take_zero, List.drop_succ_cons, List.drop_zero]
  go_wp2_with fail
  with_reducible refine CutQ.go_ ?_
  with_reducible refine wpList_store_V rfl (.tmp 15) (.tmp 16) (.const (.bool true)) 35 3 4 rfl intKeyed Tryz.underlying35 db m F (by kernel_rfl) hF (by omega) (.int .i64 g) (.bool true) (.int .i64 g) (by kernel_rfl) rfl kg ?_
  intro w2 m2 g2
  have e0 : F (.int .i64 (g : Int)) = none := by rw [hF2]; rfl
  rw [e0] at m2
  have HT : Hid (TierR w2 T n c r db (m + 1) ks L (fun q => decide (q = (g : Int))) ∧ Below B w w2 ∧ w.grownBy w2 (some db)) := by
    refine ⟨⟨(g2.block T h.blk.lt fun q => by have := Option.some.inj q; omega).trans h.blk, hRB w2 g2, _, m2, fun q => ?_⟩, Below.grown (Below.refl B w) g2 hBw fun j hj => by have := Option.some.inj hj; omega, g2⟩
    by_cases e : q = (g : Int)
    · subst e
      rw [setM_same]
      simp
    · rw [setM_other _ (fun x => e (by injection x)), hF2 q]
      simp [e]
  clear m2 g2 e0 hF hF2
  go_frame
  go_wp2_with fail
  go_ret
  exact ⟨rfl, HT.out⟩
set_option maxRecDepth 100000 in
set_option maxHeartbeats 1600000 in
/-- .. and is up again. -/
theorem up_calls (w : World) (B T n c r db m ks : Nat) (L : List Pt) (g : Nat) (h : TierR w T n c r db (m + 1) ks L (fun q => decide (q = (g : Int)))) (_hm : m ≤ 100) (hB : B ≤ db) (hdT : db < T) (_hTr : T < r) (hRB : ∀ w', w.grownBy w' (some db) → RingR w' r ks L) (h1 : c ≤ g) (h2 : g < n) (hn : n ≤ 100) (hBw : B ≤ w.heap.size) :
    Calls Tryz.prog 7 #[.pointer (some ⟨T, 0, none⟩), .int .i64 g, .bool false] w fun e w' => e = .returned (.int .i64 0) ∧ TierR w' T n c r db m ks L (fun _ => false) ∧ Below B w w' ∧ w.grownBy w' (some db) := by
  have c0 := h.blk.at_ (i := 0) (v := .int .i64 n) rfl
  have c1 := h.blk.at_ (i := 1) (v := .int .i64 c) rfl
  have c3 := h.blk.at_ (i := 3) (v := .map (some db)) rfl
  obtain ⟨F, hF, hF2⟩ := h.down
  have d1 : ((c : Int) ≤ (g : Int)) := by omega
  have d2 : ((g : Int) < (n : Int)) := by omega
  have kg := key_iV (a := (g : Int)) ⟨by omega, by omega⟩
  go_enter Tryz.func7, Tryz.ntmps7
  have PC := parental_calls w T n c r db g h.blk h1 h2
  go_upto_region 5 with (go_at_call 16; (with_reducible refine PC.mono ?_); rintro e w' ⟨rfl, rfl⟩)
  with_reducible refine wp_region_lit ?_
  with_reducible refine wpList_cutAt 5 ?_
  simp only [List.take_succ_cons, List.take_zero, List.drop_succ_cons, List.drop_zero]
  go_wp2_with fail
  with_reducible refine CutQ.go_ ?_
  with_reducible refine wpList_delete_V rfl (.tmp 20) (.tmp 21) 35 3 4 rfl intKeyed Tryz.underlying35 db (m + 1) F (by kernel_rfl) hF (.int .i64 g) (.int .i64 g) (by kernel_rfl) kg ?_
  intro w2 m2 g2
  have e0 : F (.int .i64 (g : Int)) = some (.bool true) := by rw [hF2]; simp
  rw [e0] at m2
  have HT : Hid (TierR w2 T n c r db m ks L (fun _ => false) ∧ Below B w w2 ∧ w.grownBy w2 (some db)) := by
    refine ⟨⟨(g2.block T h.blk.lt fun q => by have := Option.some.inj q; omega).trans h.blk, hRB w2 g2, _, m2, fun q => ?_⟩, Below.grown (Below.refl B w) g2 hBw fun j hj => by have := Option.some.inj hj; omega, g2⟩
    by_cases e : q = (g : Int)
    · subst e
      rw [setM_same]
      rfl
    · rw [setM_other _ (fun x => e (by injection x)), hF2 q]
      simp [e]
  clear m2 g2 e0 hF hF2
  go_frame
  go_wp2_with fail
  go_ret
  exact ⟨rfl, HT.out⟩
/-- Numbers in a row of one's own. -/
structure Nums (w wr : World) (v : Value) (k : Nat) : Prop where
  own : ∃ xs, wr.ownsRow w.heap.size 3 1 v k xs
  bel : Below w.heap.size w wr
set_option maxRecDepth 100000 in
set_option maxHeartbeats 1600000 in
theorem order_len (w : World) (T n c r db : Nat) (h : Blk w T 38 #[.int .i64 n, .int .i64 c, .pointer (some ⟨r, 0, none⟩), .map (some db)]) (h1 : c ≤ n) (hn : n ≤ 100) :
    Calls Tryz.prog 8 #[.pointer (some ⟨T, 0, none⟩)] w fun e w' => (∃ A cap, e = .returned (.slice A n cap)) ∧ Below w.heap.size w w' := by
  have c1 := h.at_ (i := 1) (v := .int .i64 c) rfl
  go_enter Tryz.func8, Tryz.ntmps8
  go_wp2_with fail
  go_loopw [3, 4] (fun v i wr => ∃ k q : Nat, q ≤ n ∧ i = .int .i64 (q : Int) ∧ Hid (q = c + k) ∧ Nums w wr v k) (fun _ i _ => n - (intOf i).toNat)
  case atStart => exact ⟨0, c, h1, rfl, Lib.hid rfl, ⟨[], World.ownsRow_nil _ _ _ _⟩, Below.refl _ _⟩
  case round =>
  clear c1
  obtain ⟨k, q, hq, rfl, hqk, S⟩ := hrel
  obtain ⟨xs, own⟩ := S.own
  obtain ⟨A, cp, hv, hnc, hcm⟩ := own_form own
  subst hv
  have hqk2 := hqk.out
  have hk : k ≤ n := by omega
  have tb := h.below S.bel h.lt
  have c0 := tb.at_ (i := 0) (v := .int .i64 n) rfl
  have c1 := tb.at_ (i := 1) (v := .int .i64 c) rfl
  by_cases hlt : q < n
  · have dec : decide ((q : Int) < (n : Int)) = true := decide_eq_true (by omega)
    have dec' : decide (q < n) = true := decide_eq_true hlt
    have rv1 : RV (wr.alloc (.cells #[.int .i64 q] 3)) (some ⟨wr.heap.size, 0, none⟩) [.int .i64 q] := RV.new wr [.int .i64 q] 3 (0, 0)
    clear hqk2
    go_upto_region 5 with fail
    with_reducible refine wp_region_lit ?_
    with_reducible refine wpList_cutAt 3 ?_
    simp only [List.take_succ_cons, List.take_zero, List.drop_succ_cons, List.drop_zero]
    go_wp2_with fail
    with_reducible refine CutQ.go_ ?_
    with_reducible refine wpList_append_rv el_int (by kernel_rfl) (.tmp 18) (.tmp 20) rfl w.heap.size (.slice A k cp) k xs (by kernel_rfl) (own.alloc _) (some ⟨wr.heap.size, 0, none⟩) 1 1 [.int .i64 q] (by kernel_rfl) rfl rv1 (one_of_int _ _) ?f2 ?f3 ?f4 ?_
    case f2 => unfold maxLen; omega
    case f3 => omega
    case f4 => exact Nat.le_trans S.bel.size (by simp)
    intro v6 w6 own6 gr6 hv6
    have S6 : Nums w w6 v6 (k + 1) := ⟨⟨_, own6⟩, Below.grown (S.bel.alloc S.bel.size _) gr6 (Nat.le_trans S.bel.size (by simp)) fun j hj => (own.lt j hj).1⟩
    clear own6 gr6 hv6 own rv1 c0 c1 tb S
    go_frame
    go_wp2_with fail
    refine ⟨⟨k + 1, q + 1, by omega, by rw [show ((q : Int) + 1) = ((q + 1 : Nat) : Int) by omega], Lib.hid (by rw [hqk.out]; omega), S6⟩, ?_⟩
    rw [show ((q : Int) + 1) = ((q + 1 : Nat) : Int) by omega]
    simp only [intOf, Int.toNat_natCast]
    omega
  have dec : decide ((q : Int) < (n : Int)) = false := decide_eq_false (by omega)
  have dec' : decide (q < n) = false := decide_eq_false hlt
  obtain ⟨d, hd⟩ : ∃ d, Hid (d = n - c ∧ k = d) := ⟨n - c, Lib.hid ⟨rfl, by omega⟩⟩
  have hcn : Hid (k + c = n) := Lib.hid (by omega)
  clear hqk2 hqk hd d
  go_wp2_with fail
  clear c0 c1 tb own hnc hcm
  go_loopw [3, 26] (fun v i wx => ∃ j : Nat, j ≤ c ∧ i = .int .i64 (j : Int) ∧ Nums w wx v (k + j)) (fun _ i _ => c - (intOf i).toNat)
  case atStart => exact ⟨0, Nat.zero_le _, rfl, S⟩
  case round =>
  clear S dec dec'
  obtain ⟨j, hj, rfl, S⟩ := hrel
  obtain ⟨ys, own⟩ := S.own
  obtain ⟨A2, cp2, hv, hnc, hcm⟩ := own_form own
  subst hv
  by_cases hlt : j < c
  · have dec : decide ((j : Int) < (c : Int)) = true := decide_eq_true (by omega)
    have dec' : decide (j < c) = true := decide_eq_true hlt
    obtain ⟨m, hm⟩ : ∃ m, m = k + j := ⟨_, rfl⟩
    have hm2 : m ≤ 300 := by omega
    rw [← hm] at own S ⊢
    replace hm := Lib.hid hm
    have rv1 : RV (wr.alloc (.cells #[.int .i64 j] 3)) (some ⟨wr.heap.size, 0, none⟩) [.int .i64 j] := RV.new wr [.int .i64 j] 3 (0, 0)
    go_upto_region 9 with fail
    with_reducible refine wp_region_lit ?_
    with_reducible refine wpList_cutAt 3 ?_
    simp only [List.take_succ_cons, List.take_zero, List.drop_succ_cons, List.drop_zero]
    go_wp2_with fail
    with_reducible refine CutQ.go_ ?_
    with_reducible refine wpList_append_rv el_int (by kernel_rfl) (.tmp 29) (.tmp 31) rfl w.heap.size (.slice A2 m cp2) m ys (by kernel_rfl) (own.alloc _) (some ⟨wr.heap.size, 0, none⟩) 1 1 [.int .i64 j] (by kernel_rfl) rfl rv1 (one_of_int _ _) ?f2 ?f3 ?f4 ?_
    case f2 => unfold maxLen; omega
    case f3 => omega
    case f4 => exact Nat.le_trans S.bel.size (by simp)
    intro v6 w6 own6 gr6 hv6
    have S6 : Nums w w6 v6 (k + (j + 1)) := ⟨⟨ys ++ [.int .i64 j], by rw [show k + (j + 1) = m + 1 by rw [hm.out]; rfl]; exact own6⟩, Below.grown (S.bel.alloc S.bel.size _) gr6 (Nat.le_trans S.bel.size (by simp)) fun j hj => (own.lt j hj).1⟩
    clear own6 gr6 hv6 own rv1 S
    go_frame
    go_wp2_with fail
    refine ⟨⟨j + 1, by omega, by rw [show ((j : Int) + 1) = ((j + 1 : Nat) : Int) by omega], S6⟩, ?_⟩
    rw [show ((j : Int) + 1) = ((j + 1 : Nat) : Int) by omega]
    simp only [intOf, Int.toNat_natCast]
    omega
  · obtain rfl : j = c := by omega
    have dec : decide ((j : Int) < (j : Int)) = false := decide_eq_false (by omega)
    obtain ⟨m, hm⟩ : ∃ m, m = k + j := ⟨_, rfl⟩
    rw [← hm] at own S ⊢
    have hmn : Hid (m = n) := by show _ = _; rw [hm]; exact hcn.out
    clear hm hcn
    go_wp2_with fail
    go_ret
    exact ⟨⟨A2, cp2, by rw [hmn.out]; rfl⟩, S.bel⟩
end Go.Proofs.YtnjcaepbelgpfaaGreatDoor
