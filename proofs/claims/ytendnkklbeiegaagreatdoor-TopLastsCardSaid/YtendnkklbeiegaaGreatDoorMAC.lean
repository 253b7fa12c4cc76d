/-
  Walk: a store's names, sorted.
-/
import Derived.Test.YtendnkklbeiegaaGreatDoorMAO
import Derived.Test.YtendnkklbeiegaaGreatDoorRowK
import Derived.Laws.Cover1
import Derived.Shelf.SlSortCmp.NoneTotal
import Derived.Sort.LotA
import Derived.Lib.Hide
import Derived.Deep.RegionHeld
import Derived.Deep.Cut
import Derived.ProofKit
import Derived.Test.YtendnkklbeiegaaGreatDoorShelfY
import Derived.Test.YtendnkklbeiegaaGreatDoorCutQ
import Derived.BigQuiet
import Derived.Deep.QuietTactic
namespace Go.Proofs.YtendnkklbeiegaaGreatDoor
open Go.RowKit StoreP ExtP

def cmpN (x y : Int) : Int := if x < y then -1 else if y < x then 1 else 0
def orI (a b : Int) : Int := if a = 0 then b else a
theorem cmpi_calls (x y : Int) (w : World) : Calls Tryz.prog 50 #[.int .i64 x, .int .i64 y] w fun e w' => e = .returned (.int .i64 (cmpN x y)) ∧ w' = w := by
  obtain ⟨r, hr⟩ : ∃ r, r = cmpN x y := ⟨_, rfl⟩
  rw [← hr]
  unfold cmpN at hr
  by_cases h1 : x < y
  · rw [if_pos h1] at hr
    replace hr := Lib.hid hr
    go_enter Tryz.func50, Tryz.ntmps50
    go_wp2
    go_ret
    exact ⟨by rw [hr.out]; rfl, rfl⟩
  · by_cases h2 : y < x
    · rw [if_neg h1, if_pos h2] at hr
      replace hr := Lib.hid hr
      go_enter Tryz.func50, Tryz.ntmps50
      go_wp2
      go_ret
      exact ⟨by rw [hr.out]; rfl, rfl⟩
    · rw [if_neg h1, if_neg h2] at hr
      replace hr := Lib.hid hr
      go_enter Tryz.func50, Tryz.ntmps50
      go_wp2
      go_ret
      exact ⟨by rw [hr.out]; rfl, rfl⟩
set_option maxRecDepth 100000 in
theorem or_calls (a c : Int) (b off cap : Nat) (w : World) (h0 : w.cell? ⟨b, off, none⟩ = some (.int .i64 a)) (h1 : w.cell? ⟨b, off + 1, none⟩ = some (.int .i64 c)) :
    Calls Tryz.prog 90 #[.slice (some ⟨b, off, none⟩) 2 cap] w fun e w' => e = .returned (.int .i64 (orI a c)) ∧ w' = w := by
  obtain ⟨r, hr⟩ : ∃ r, r = orI a c := ⟨_, rfl⟩
  rw [← hr]
  unfold orI at hr
  replace hr := Lib.hid hr
  have hc : ∀ k : Nat, k < 2 → w.cell? ⟨b, off + k, none⟩ = some (.int .i64 (if k = 0 then a else c)) := fun k hk => by
    rcases Nat.lt_or_ge k 1 with h | h
    · obtain rfl : k = 0 := by omega
      exact h0
    · obtain rfl : k = 1 := by omega
      exact h1
  clear h0 h1
  go_enter Tryz.func90, Tryz.ntmps90
  go_wp2
  go_loopw [8] (fun i wr => ∃ k : Nat, k ≤ 2 ∧ i = .int .i64 k ∧ (1 ≤ k → a = 0) ∧ (2 ≤ k → c = 0) ∧ wr = w) (fun i _ => 2 - (intOf i).toNat)
  case atStart => exact ⟨0, by omega, rfl, fun h => by omega, fun h => by omega, rfl⟩
  case round =>
    obtain ⟨k, hk, rfl, ha, hc2, rfl⟩ := hrel
    by_cases hlt : k < 2
    · have dec : decide ((k : Int) < 2) = true := decide_eq_true (by omega)
      have dec' : decide (k < 2) = true := decide_eq_true hlt
      have hck := hc k hlt
      obtain ⟨v, hv⟩ : ∃ v : Int, v = if k = 0 then a else c := ⟨_, rfl⟩
      rw [← hv] at hck
      clear hc
      by_cases h0 : v = 0
      · have ha2 : Hid ((1 ≤ k + 1 → a = 0) ∧ (2 ≤ k + 1 → c = 0)) := by
          refine ⟨fun _ => ?_, fun h => ?_⟩
          · by_cases e : k = 0
            · rw [if_pos e] at hv; omega
            · exact ha (by omega)
          · rw [if_neg (by omega)] at hv; omega
        subst h0
        clear hv ha hc2 hr
        go_wp2
        refine ⟨⟨k + 1, by omega, by rw [show ((k : Int) + 1) = ((k + 1 : Nat) : Int) by omega], ha2.out.1, ha2.out.2, trivial⟩, ?_⟩
        rw [show ((k : Int) + 1) = ((k + 1 : Nat) : Int) by omega]
        simp only [intOf, Int.toNat_natCast]
        omega
      · have hr2 : Hid (r = v) := by
          show r = v
          rw [hr.out]
          by_cases e : k = 0
          · rw [if_pos e] at hv
            rw [if_neg (by omega), hv]
          · rw [if_neg e] at hv
            rw [if_pos (ha (by omega)), hv]
        clear hv ha hc2 hr
        go_wp2
        go_ret
        exact ⟨by rw [hr2.out]; rfl, rfl⟩
    · obtain rfl : k = 2 := by omega
      have hr2 : Hid (r = 0) := by
        show r = 0
        rw [hr.out, if_pos (ha (by omega)), hc2 (by omega)]
      clear ha hc2 hr hc
      go_wp2
      go_ret
      exact ⟨by rw [hr2.out]; rfl, rfl⟩


theorem exC_len : ∀ p : Ex, (exC p).length = 2 := fun _ => rfl
theorem exC_one (p : Ex) : ∀ u ∈ exC p, u.oneCell' = true := fun u hu => by
  rcases List.mem_cons.1 hu with rfl | hu
  · rfl
  · rw [List.mem_singleton.1 hu]; rfl
def nmF (x y : Nm) : Int := orI (cmpN (x.1 : Int) (y.1 : Int)) (cmpN (x.2 : Int) (y.2 : Int))
/-- Which name stands ahead. -/
def ltN (x y : Nm) : Prop := x.1 < y.1 ∨ (x.1 = y.1 ∧ x.2 < y.2)
theorem nmF_lt (x y : Nm) : nmF x y < 0 ↔ ltN x y := by
  unfold nmF orI cmpN ltN
  by_cases h1 : x.1 < y.1
  · simp [h1]
  · by_cases h2 : y.1 < x.1
    · simp [h1, h2]; omega
    · have h3 : x.1 = y.1 := by omega
      by_cases h4 : x.2 < y.2
      · simp [h3, h4]
      · by_cases h5 : y.2 < x.2 <;> simp [h3, h4, h5]
instance (x y : Nm) : Decidable (ltN x y) := by unfold ltN; infer_instance
theorem nm_lt (x y : Nm) : ltOf nmF x y = decide (ltN x y) := by
  unfold ltOf
  exact decide_eq_decide.2 (nmF_lt x y)
theorem nm_swo : Sort.SWO (ltOf nmF) where
  irrefl x := by
    rw [nm_lt]
    simp [ltN]
  trans x y z h1 h2 := by
    rw [nm_lt] at h1 h2 ⊢
    have a := of_decide_eq_true h1
    have b := of_decide_eq_true h2
    refine decide_eq_true ?_
    unfold ltN at *
    omega
  ntrans x y z h1 h2 := by
    rw [nm_lt] at h1 h2 ⊢
    have a := of_decide_eq_false h1
    have b := of_decide_eq_false h2
    refine decide_eq_false ?_
    unfold ltN at *
    omega
set_option maxRecDepth 100000 in
set_option maxHeartbeats 1600000 in
theorem order_calls (x y : Nm) (W : World) : Calls Tryz.prog 40 #[.agg #[.int .i64 (x.1 : Int), .int .i64 (x.2 : Int)], .agg #[.int .i64 (y.1 : Int), .int .i64 (y.2 : Int)]] W fun e w' => e = .returned (.int .i64 (nmF x y)) ∧ ∃ q os', w' = Sort.grow (W.drewN q) os' := by
  obtain ⟨c1, h1⟩ : ∃ c, c = cmpN (x.1 : Int) (y.1 : Int) := ⟨_, rfl⟩
  obtain ⟨c2, h2⟩ : ∃ c, c = cmpN (x.2 : Int) (y.2 : Int) := ⟨_, rfl⟩
  obtain ⟨c3, h3⟩ : ∃ c, c = nmF x y := ⟨_, rfl⟩
  have e3 : Hid (c3 = orI c1 c2) := by show _ = _; rw [h3, h1, h2]; rfl
  have u := fun w => cmpi_calls (x.1 : Int) (y.1 : Int) w
  have s := fun w => cmpi_calls (x.2 : Int) (y.2 : Int) w
  rw [← h1] at u
  rw [← h2] at s
  rw [← h3]
  clear h1 h2 h3
  obtain ⟨a1, s1⟩ := x
  obtain ⟨a2, s2⟩ := y
  dsimp only at u s ⊢
  generalize (a1 : Int) = a1 at u ⊢
  generalize (a2 : Int) = a2 at u ⊢
  generalize (s1 : Int) = s1 at s ⊢
  generalize (s2 : Int) = s2 at s ⊢
  obtain ⟨W1, hW1⟩ : ∃ W1, W1 = W.alloc (.cells #[.int .i64 a1, .int .i64 s1] 40) := ⟨_, rfl⟩
  have b1 := Blk.new W 40 #[.int .i64 a1, .int .i64 s1]
  rw [← hW1] at b1
  have b2 := Blk.new W1 40 #[.int .i64 a2, .int .i64 s2]
  have n1 : W1.heap.size = W.heap.size + 1 := by rw [hW1]; simp
  have b1' := b1.alloc (.cells #[.int .i64 a2, .int .i64 s2] 40)
  obtain ⟨W2, hW2⟩ : ∃ W2, W2 = W1.alloc (.cells #[.int .i64 a2, .int .i64 s2] 40) := ⟨_, rfl⟩
  rw [← hW2] at b1' b2
  have HW : Hid (W2 = Sort.grow W #[.cells #[.int .i64 a1, .int .i64 s1] 40, .cells #[.int .i64 a2, .int .i64 s2] 40]) := by
    show _ = _
    rw [hW2, hW1, Sort.alloc_eq_grow, Sort.alloc_eq_grow, Sort.grow_grow]
    rfl
  go_enter Tryz.func40, Tryz.ntmps40
  go_upto_region 1 with fail
  rw [← hW1]
  simp only [← hW2]
  rw [n1] at b2
  have n2 : W2.heap.size = W.heap.size + 2 := by rw [hW2]; simp [n1]
  try simp only [World.size_alloc]
  clear hW1 hW2 b1 n1
  have k1 := b1'.at_ (i := 0) (v := .int .i64 a1) rfl
  have k2 := b1'.at_ (i := 1) (v := .int .i64 s1) rfl
  have k3 := b2.at_ (i := 0) (v := .int .i64 a2) rfl
  have k4 := b2.at_ (i := 1) (v := .int .i64 s2) rfl
  have g5 := Blk.new W2 3 #[.int .i64 c1, .int .i64 c2]
  rw [n2] at g5
  have f5 := or_calls c1 c2 (W.heap.size + 2) 0 2 (W2.alloc (.cells #[.int .i64 c1, .int .i64 c2] 3)).drew (g5.drew.at_ rfl) (g5.drew.at_ rfl)
  clear g5
  have f3 := u W2.drew
  have f4 := s W2.drew
  clear u s b1' b2
  go_region_held (fun wq => wq.cell? ⟨W.heap.size, 0, none⟩ = some (.int .i64 a1) ∧ wq.cell? ⟨W.heap.size, 1, none⟩ = some (.int .i64 s1) ∧ wq.cell? ⟨W.heap.size + 1, 0, none⟩ = some (.int .i64 a2) ∧ wq.cell? ⟨W.heap.size + 1, 1, none⟩ = some (.int .i64 s2)) (first | exact k1 | exact k2 | go_keep) (first
    | (go_at_call 50; (first | (with_reducible refine f3.mono ?_) | (with_reducible refine f4.mono ?_)); rintro e w' ⟨rfl, rfl⟩)
    | (go_at_call 90; (with_reducible refine f5.mono ?_); rintro e w' ⟨rfl, rfl⟩))
  go_wp2
  go_ret
  refine ⟨by rw [e3.out]; rfl, 1, #[.cells #[.int .i64 a1, .int .i64 s1] 40, .cells #[.int .i64 a2, .int .i64 s2] 40] ++ #[.cells #[.int .i64 c1, .int .i64 c2] 3], ?_⟩
  rw [Sort.alloc_eq_grow, HW.out, Sort.grow_grow]
  rfl
/-- The row of names, sorted by the library. -/
theorem sortNm_calls (L : List Nm) (hL : L.length ≤ 100000) (base g cap : Nat) (w : World) (h : w.ownsRow base 40 2 (.slice (some ⟨g, 0, none⟩) L.length cap) L.length (eC L)) :
    Calls Tryz.prog 88 #[.slice (some ⟨g, 0, none⟩) L.length cap, .func (.func 40) #[] #[]] w fun e w' => e = .returned (.tuple #[]) ∧ ∃ L' : List Nm, L'.Perm L ∧ (∀ i j, i < j → j < L'.length → ¬ ltN (L'.getD j default) (L'.getD i default)) ∧ w'.ownsRow base 40 2 (.slice (some ⟨g, 0, none⟩) L.length cap) L.length (eC L') ∧ w.grownBy w' (some g) := by
  have eg : ∀ args w, (callFunc 40 args).run Tryz.prog w = .ok (.enter 40 args) w := enters_of Tryz.func40 (by kernel_rfl) rfl
  change w.ownsRow base 40 2 (.slice (some ⟨g, 0, none⟩) L.length cap) L.length (flK exC L) at h
  obtain ⟨hb, ht⟩ : ∃ cur, w.heap[g]? = some (.cells cur 40 (0, 0)) ∧ cur.toList.take (L.length * 2) = flK exC L := by
    rcases h.2 with ⟨h0, _⟩ | ⟨g', cap', cur, hv, _, h2, _, _, _, h6⟩
    · cases h0
    injection hv with hA
    injection hA with hA
    injection hA with hA
    subst hA
    exact ⟨cur, h2, h6⟩
  have hcon := AnyQ.slices_SortFunc Tryz.sortNm 2 Tryz.isAgg40 Tryz.sizeOf40 exC exC_len exC_one nmF nm_swo 40 #[] g 0 cap L.toArray w eg (fun _ _ _ _ x y => order_calls x y _) (holdsK_own exC_len ht.1 ht.2) (lt_of_block ht.1) (by simp; omega)
  rw [List.size_toArray] at hcon
  refine hcon.mono ?_
  rintro e w' ⟨rfl, d', n, os, hp, hsrt, rfl⟩
  have hperm := perm_of_permIn (d := L) (d' := d') hp
  refine ⟨rfl, d'.toList, hperm, fun i j hij hj => ?_, ?_, grown_sortedK exC 2 w g n os d'⟩
  · have hsz : d'.size = L.length := by have := hp.1; simpa using this
    have hj2 : j < d'.size := by simpa using hj
    have := hsrt i j (Nat.zero_le _) hij (by omega)
    rw [nm_lt] at this
    have e1 : d'[i]! = d'.toList.getD i default := by simp [List.getD, show i < d'.size by omega]
    have e2 : d'[j]! = d'.toList.getD j default := by simp [List.getD, hj2]
    rw [e1, e2] at this
    simpa using this
  · have h5 := own_sortedK (n := n) (os := os) exC_len (d := L) (d' := d'.toList) hperm.length_eq h
    rw [show d'.toList.toArray = d' by simp] at h5
    exact h5
theorem nmCollect_calls (Bm M mn : Nat) (hmn : mn ≤ 100000) (f : Nm → Option Slot) (hok : ∀ m, (f m).isSome = true → okN m) (w : World) (hBm : Bm < w.heap.size) (hm : w.cell? ⟨Bm, 0, none⟩ = some (.map (some M))) (hM : MapV w 40 M mn (encS f)) :
    Calls Tryz.prog 87 #[.func (.func 89) #[] #[.pointer (some ⟨Bm, 0, none⟩)]] w fun e w' =>
      ∃ (v : Value) (ss : List Nm), e = .returned v ∧ LiveN f ss ∧ ss.length ≤ mn ∧ w'.ownsRow w.heap.size 40 2 v ss.length (eC ss) ∧ Below w.heap.size w w' := by
  have AC := nmAppend_calls Bm M mn hmn f hok w hBm hm hM
  go_enter Tryz.func87, Tryz.ntmps87
  go_wp2_with (go_at_call 129; refine AC.mono ?_; rintro e w' ⟨v, ss, rfl, h1, h2, h3, h4⟩)
  go_ret
  exact ⟨v, ss, rfl, h1, h2, h3, h4⟩
theorem LiveN.perm {f : Nm → Option Slot} {a b : List Nm} (h : LiveN f a) (p : b.Perm a) : LiveN f b := ⟨p.nodup_iff.2 h.1, fun x => by rw [p.mem_iff]; exact h.2 x⟩
/-- Sorted: rising. -/
def UpN (L : List Nm) : Prop := ∀ i j, i < j → j < L.length → ¬ ltN (L.getD j default) (L.getD i default)
/-- A row of names of the call's own. -/
def RetNames (w : World) (f : Nm → Option Slot) (mn : Nat) (e : Ending) (w' : World) : Prop :=
  ∃ (A : Option Addr) (c : Nat) (ss : List Nm), e = .returned (.slice A ss.length c) ∧ LiveN f ss ∧ UpN ss ∧ ss.length ≤ mn ∧ w'.ownsRow w.heap.size 40 2 (.slice A ss.length c) ss.length (eC ss) ∧ Below w.heap.size w w'
theorem nmSorted_calls (Bm M mn : Nat) (hmn : mn ≤ 100000) (f : Nm → Option Slot) (hok : ∀ m, (f m).isSome = true → okN m) (w : World) (hBm : Bm < w.heap.size) (hm : w.cell? ⟨Bm, 0, none⟩ = some (.map (some M))) (hM : MapV w 40 M mn (encS f)) :
    Calls Tryz.prog 38 #[.func (.func 89) #[] #[.pointer (some ⟨Bm, 0, none⟩)], .func (.func 40) #[] #[]] w (RetNames w f mn) := by
  have CC := nmCollect_calls Bm M mn hmn f hok w hBm hm hM
  go_enter Tryz.func38, Tryz.ntmps38
  go_wp2_with fail
  refine CC.mono ?_
  rintro e w1 ⟨v, ss, rfl, h1, h2, h3, h4⟩
  obtain ⟨A, c, rfl, _, _⟩ := own_form h3
  cases A with
  | none =>
    have hz : ss.length = 0 := by
      rcases h3.2 with ⟨_, h0⟩ | ⟨g, cap, cur, hv, _⟩
      · exact h0
      · cases hv
    obtain rfl : ss = [] := List.eq_nil_of_length_eq_zero hz
    have SC := AnyF.slices_SortFunc_none Tryz.sortNm none c (.func (.func 40) #[] #[]) w1
    go_wp2_with fail
    refine SC.mono ?_
    rintro e w2 ⟨rfl, q⟩
    obtain rfl := q
    go_wp2
    go_ret
    exact ⟨none, c, [], rfl, h1, fun i j _ h => (by cases h), h2, h3, h4⟩
  | some a =>
    obtain ⟨g, off, rfl⟩ : ∃ g : Nat, ∃ off : Unit, a = ⟨g, 0, none⟩ := by
      rcases h3.2 with ⟨hv, _⟩ | ⟨g, cap, cur, hv, _⟩
      · cases hv
      · injection hv with hv; injection hv with hv; exact ⟨g, (), hv⟩
    have SC := sortNm_calls ss (by omega) w.heap.size g c w1 h3
    go_wp2_with fail
    refine SC.mono ?_
    rintro e w2 ⟨rfl, L', p1, p2, p3, p4⟩
    go_wp2
    go_ret
    rw [← p1.length_eq] at p3 ⊢
    exact ⟨_, _, L', rfl, h1.perm p1, p2, by rw [p1.length_eq]; exact h2, p3, h4.grown p4 h4.size (fun j hj => by cases hj; exact (h3.lt g rfl).1)⟩
/-- Names of a store. -/
theorem names_calls (σ : StoL) (s : SP) (w : World) (base : Nat) (h : StoOK w base σ s) (hok : ∀ m, (s.st.sl m).isSome = true → okN m) (hm : s.many ≤ 1000) :
    Calls Tryz.prog 13 #[.pointer (some ⟨σ.B, 0, none⟩)] w (RetNames w s.st.sl σ.mn) := by
  have hcn := h.cnt
  have c5 := h.bx.at_ (i := 5) (v := .map (some σ.M)) rfl
  have KC := nmKeys_calls σ.M w
  have B1 : Below w.heap.size w (w.alloc (.cells #[.map (some σ.M)] 95)) := (Below.refl _ _).alloc (Nat.le_refl _) _
  have SC := nmSorted_calls w.heap.size σ.M σ.mn (by omega) s.st.sl hok (w.alloc (.cells #[.map (some σ.M)] 95)) (by simp) ((Blk.new w 95 #[.map (some σ.M)]).at_ rfl) (h.sl.alloc _)
  go_enter Tryz.func13, Tryz.ntmps13
  go_wp2_with (first
    | (go_at_call 39; refine KC.mono ?_; rintro e w1 ⟨rfl, rfl⟩)
    | (go_at_call 38; refine SC.mono ?_; rintro e w2 ⟨A, c, ss, rfl, h1, h2, h3, h4, h5⟩))
  go_ret
  exact ⟨A, c, ss, rfl, h1, h2, h3, ownsRow_base_a h4 (by simp), B1.trans (h5.mono (by simp))⟩
end Go.Proofs.YtendnkklbeiegaaGreatDoor
namespace Go.Proofs.YtendnkklbeiegaaGreatDoor.Al
open Go.RowKit Go.Maps Go.WideMaps Go.Shelf

theorem fmt_calls (i : Nat) (hi : i < 100) (w : World) : Calls Tryz.prog 71 #[.int .i64 i, .int .i64 10] w fun e w' => e = .returned (.string (bstr (Lib.decDigits i))) ∧ w' = w := Tryz.strconv_FormatInt_10_small i hi w
theorem info_partsV {P : Program} {e : TypeId} {z : Value} {size bytes : Nat} (h : (P.info? e).map (fun i => (i.zero, i.size, i.bytes)) = some (some z, size, bytes)) : ∃ i, P.info? e = some i ∧ i.zero = some z ∧ i.size = size ∧ i.bytes = bytes := by
  obtain ⟨i, hi, he⟩ := Option.map_eq_some_iff.1 h
  injection he with h1 h2
  injection h2 with h2 h3
  exact ⟨i, hi, h1, h2, h3⟩
abbrev Sp := Int × Int
def sC (p : Sp) : List Value := [.int .i64 p.1, .int .i64 p.2]
theorem sC_len : ∀ p, (sC p).length = 2 := fun _ => rfl
theorem sC_one (p : Sp) : ∀ u ∈ sC p, u.oneCell' = true := fun u hu => by
  rcases List.mem_cons.1 hu with rfl | hu
  · rfl
  · rw [List.mem_singleton.1 hu]; rfl
theorem info_spn : (Tryz.prog.info? 65).map (fun i => (i.zero, i.size, i.bytes)) = some (some (.agg #[.int .i64 0, .int .i64 0]), 2, 16) := by kernel_rfl
theorem el_spn : El Tryz.prog 60 65 (.agg #[.int .i64 0, .int .i64 0]) 2 16 := ⟨info_partsV info_spn, Tryz.underlying60, rfl, by decide⟩
/-- Spans in a row of one's own. -/
abbrev Sps (B : Nat) (w : World) (v : Value) (l : List Sp) : Prop := w.ownsRow B 65 2 v l.length (flK sC l)
theorem Sps.nil (B : Nat) (w : World) : Sps B w (.slice none 0 0) [] := ⟨rfl, .inl ⟨rfl, rfl⟩⟩
/-- Span i's cells. -/
theorem sp_at {w : World} {A : Option Addr} {L : List Sp} (h : RV w A (flK sC L)) {i : Nat} (hi : i < L.length) :
    ∃ b off, A = some ⟨b, off, none⟩ ∧ b < w.heap.size ∧ w.cell? ⟨b, off + i * 2, none⟩ = some (.int .i64 L[i].1) ∧ w.cell? ⟨b, off + i * 2 + 1, none⟩ = some (.int .i64 L[i].2) := by
  have h0 : flK sC L ≠ [] := by
    intro e
    have e2 := congrArg List.length e
    rw [flK_len sC_len] at e2
    have e3 : L.length * 2 = 0 := e2
    omega
  obtain ⟨b, off, rfl, hb, hc⟩ := h h0
  have e0 := flK_at sC_len hi (j := 0) (by omega)
  have e1 := flK_at sC_len hi (j := 1) (by omega)
  exact ⟨b, off, rfl, hb, hc (i * 2) _ e0, hc (i * 2 + 1) _ e1⟩
theorem Sps.rv {B : Nat} {w : World} {A : Option Addr} {n c : Nat} {l : List Sp} (h : w.ownsRow B 65 2 (.slice A n c) l.length (flK sC l)) : RV w A (flK sC l) := by
  intro hne
  rcases h.2 with ⟨hv, h0⟩ | ⟨g, cap, cur, hv, _, hh, _, _, _, h6⟩
  · have : l = [] := List.eq_nil_of_length_eq_zero h0
    subst this
    exact absurd rfl hne
  · injection hv with hA
    subst hA
    refine ⟨g, 0, rfl, lt_of_block hh, fun j u hu => ?_⟩
    rw [cell_of_row w g _ cur _ (0, 0) hh, ← Array.getElem?_toList, Nat.zero_add]
    rw [← h6] at hu
    have hj : j < l.length * 2 := by
      rcases Nat.lt_or_ge j (l.length * 2) with h | h
      · exact h
      · rw [List.getElem?_take_eq_none h] at hu; cases hu
    rwa [List.getElem?_take_of_lt hj] at hu
theorem flK_sC_set : ∀ (out : List Sp) (j : Nat) (i : Int), j < out.length → (flK sC out).set (j * 2 + 1) (.int .i64 i) = flK sC (out.set j ((out.getD j default).1, i))
  | [], _, _, h => absurd h (Nat.not_lt_zero _)
  | p :: out, 0, i, _ => rfl
  | p :: out, j + 1, i, h => by
    have ih := flK_sC_set out j i (by simpa using h)
    have e1 : flK sC (p :: out) = .int .i64 p.1 :: .int .i64 p.2 :: flK sC out := rfl
    rw [e1, show (j + 1) * 2 + 1 = (j * 2 + 1) + 1 + 1 by omega, List.set_cons_succ, List.set_cons_succ, ih]
    rfl
/-- The end of span j is set. -/
theorem Sps.set {B : Nat} {w : World} {v : Value} {out : List Sp} (h : Sps B w v out) {j : Nat} (hj : j < out.length) (i : Int) :
    ∃ g cap, v = .slice (some ⟨g, 0, none⟩) out.length cap ∧ B ≤ g ∧ g < w.heap.size ∧ w.frozen? ⟨g, j * 2 + 1, none⟩ = false ∧ Sps B (w.setCell ⟨g, j * 2 + 1, none⟩ (.int .i64 i)) v (out.set j ((out.getD j default).1, i)) := by
  have hl := h.1
  rcases h.2 with ⟨_, h0⟩ | ⟨g, cap, cur, hv, h1, h2, h3, h4, h5, h6⟩
  · omega
  have hb : Blk w g 65 cur := h2
  have hsz : j * 2 + 1 < cur.size := by rw [h5]; omega
  have el : (out.set j ((out.getD j default).1, i)).length = out.length := by simp
  refine ⟨g, cap, hv, h1, hb.lt, hb.frozen _, ?_, .inr ⟨g, cap, cur.setIfInBounds (j * 2 + 1) (.int .i64 i), ?_, h1, hb.set_ _ _, by rw [el]; exact h3, h4, by simpa using h5, ?_⟩⟩
  · rw [flK_len sC_len]
  · rw [el]; exact hv
  · rw [el, Array.toList_setIfInBounds, List.take_set, h6]
    exact flK_sC_set out j i hj
/-- One span more is gathered. -/
def gStep (out : List Sp) (x : Sp) : List Sp :=
  if 0 < out.length ∧ x.1 ≤ (out.getD (out.length - 1) default).2 then out.set (out.length - 1) ((out.getD (out.length - 1) default).1, max (out.getD (out.length - 1) default).2 x.2) else out ++ [x]
/-- What the loop holds. -/
structure GatW (w wr : World) (v : Value) (out : List Sp) : Prop where
  own : Sps w.heap.size wr v out
  bel : Below w.heap.size w wr
set_option maxRecDepth 100000 in
set_option maxHeartbeats 3200000 in
theorem gather_calls (w : World) (A : Option Addr) (c : Nat) (l : List Sp) (hl : l.length ≤ 10000) (hR : RV w A (flK sC l)) :
    Calls Tryz.prog 51 #[.slice A l.length c] w fun e w' => ∃ v, e = .returned v ∧ Sps w.heap.size w' v (l.foldl gStep []) ∧ Below w.heap.size w w' := by
  obtain ⟨res, hres⟩ : ∃ x, x = l.foldl gStep [] := ⟨_, rfl⟩
  rw [← hres]
  replace hres := Lib.hid hres
  go_enter Tryz.func51, Tryz.ntmps51
  go_wp2_with fail
  go_loopw [3, 9] (fun v i wr => ∃ (k : Nat) (out : List Sp), k ≤ l.length ∧ i = .int .i64 (k : Int) ∧ Hid (res = (l.drop k).foldl gStep out) ∧ out.length ≤ k ∧ GatW w wr v out) (fun _ i _ => l.length - (intOf i).toNat)
  case atStart => exact ⟨0, [], Nat.zero_le _, rfl, by simpa using hres, Nat.le_refl _, Sps.nil _ _, Below.refl _ _⟩
  case round =>
  clear hres
  obtain ⟨k, out, hk, rfl, hR1, hol, S⟩ := hrel
  obtain ⟨A1, cc, hv, hnc, hcm⟩ := own_form S.own
  subst hv
  by_cases hlt : k < l.length
  case neg =>
    obtain rfl : k = l.length := by omega
    have dec : decide ((l.length : Int) < (l.length : Int)) = false := decide_eq_false (by omega)
    have hR2 : Hid (res = out) := by show _ = _; rw [hR1.out, List.drop_length]; rfl
    clear hR1
    go_wp2_with fail
    go_ret
    exact ⟨_, rfl, by rw [hR2.out]; exact S.own, S.bel⟩
  have dec : decide ((k : Int) < (l.length : Int)) = true := decide_eq_true (by omega)
  have dec' : decide (k < l.length) = true := decide_eq_true hlt
  obtain ⟨b, off, rfl, hbs, e0, e1⟩ := sp_at (hR.below S.bel) hlt
  have hR2 : Hid (res = (l.drop (k + 1)).foldl gStep (gStep out l[k])) := by show _ = _; rw [hR1.out, List.drop_eq_getElem_cons hlt]; rfl
  generalize l[k] = x at *
  obtain ⟨x1, x2⟩ := x
  clear hR1
  go_upto_region 5 with fail
  have bP := Blk.new wr 65 #[.int .i64 x1, .int .i64 x2]
  have dP := (Below.refl wr.heap.size wr).alloc (Nat.le_refl _) (.cells #[.int .i64 x1, .int .i64 x2] 65)
  revert bP dP
  generalize (wr.alloc (.cells #[.int .i64 x1, .int .i64 x2] 65)) = w2
  intro bP dP
  have S2 : GatW w w2 (.slice A1 out.length cc) out := ⟨own_below S.own dP fun j hj => (S.own.lt j hj).2, S.bel.trans (dP.mono S.bel.size)⟩
  have hPo : ∀ g, (Value.slice A1 out.length cc).ownBlock = some g → g ≠ wr.heap.size := fun g hg => by have := (S.own.lt g hg).2; omega
  have hPw : w.heap.size ≤ wr.heap.size := S.bel.size
  obtain ⟨gP, hgP⟩ : ∃ g, g = wr.heap.size := ⟨_, rfl⟩
  rw [← hgP] at bP hPo hPw ⊢
  replace hPo := Lib.hid hPo
  clear hgP S dP e0 e1 hbs
  have p0 := bP.at_ (i := 0) (v := .int .i64 x1) rfl
  have p1 := bP.at_ (i := 1) (v := .int .i64 x2) rfl
  have KN : Hid (∀ q, GatW w (w2.drewN q) (.slice A1 out.length cc) out ∧ Blk (w2.drewN q) gP 65 #[.int .i64 x1, .int .i64 x2]) := fun q => ⟨⟨S2.own, ⟨S2.bel.os, S2.bel.tape, S2.bel.output, S2.bel.size, S2.bel.block⟩⟩, bP.drewN q⟩
  have HA : Hid (∀ (w3 w6 : World) (v6 : Value), GatW w w3 (.slice A1 out.length cc) out → w6.ownsRow w.heap.size 65 2 v6 (out.length + 1) (flK sC out ++ sC (x1, x2)) → (w3.alloc (.cells #[.int .i64 x1, .int .i64 x2] 65)).grownBy w6 (Value.slice A1 out.length cc).ownBlock → GatW w w6 v6 (out ++ [(x1, x2)])) := fun w3 w6 v6 S3 o g => ⟨by
      have e : (out ++ [(x1, x2)]).length = out.length + 1 := by simp
      show w6.ownsRow _ _ _ _ _ _
      rw [e, flK_append, flK_one]
      exact o, Below.grown (S3.bel.alloc S3.bel.size _) g (Nat.le_trans S3.bel.size (by simp)) fun j hj => (S3.own.lt j hj).1⟩
  rcases List.eq_nil_or_concat out with hnil | ⟨ini, z, hcat⟩
  · subst hnil
    have hR3 : Hid (res = (l.drop (k + 1)).foldl gStep [(x1, x2)]) := hR2
    clear hR2
    go_upto_region 6 with fail
    go_quiet (fail)
    obtain ⟨S3, bP3⟩ := KN.out nq
    revert S3 bP3
    clear p0 p1 KN S2 bP
    generalize w2.drewN nq = w3
    intro S3 bP3
    have p0 := bP3.at_ (i := 0) (v := .int .i64 x1) rfl
    have p1 := bP3.at_ (i := 1) (v := .int .i64 x2) rfl
    have rv1 : RV (w3.alloc (.cells #[.int .i64 x1, .int .i64 x2] 65)) (some ⟨w3.heap.size, 0, none⟩) (sC (x1, x2)) := RV.new w3 (sC (x1, x2)) 65 (0, 0)
    have oA : (w3.alloc (.cells #[.int .i64 x1, .int .i64 x2] 65)).ownsRow w.heap.size 65 2 (.slice A1 ([] : List Sp).length cc) ([] : List Sp).length (flK sC ([] : List Sp)) := S3.own.alloc _
    have hbs3 := S3.bel.size
    go_upto_region 8 with fail
    with_reducible refine wp_region_lit ?_
    with_reducible refine wpList_cutAt 3 ?_
    simp only [List.take_succ_cons, List.take_zero, List.drop_succ_cons, List.drop_zero]
    go_wp2_with fail
    with_reducible refine CutQ.go_ ?_
    with_reducible refine wpList_append_rv el_spn (by kernel_rfl) (.tmp 42) (.tmp 44) rfl w.heap.size (.slice A1 ([] : List Sp).length cc) ([] : List Sp).length (flK sC ([] : List Sp)) (by kernel_rfl) oA (some ⟨w3.heap.size, 0, none⟩) 1 1 (sC (x1, x2)) (by kernel_rfl) (by kernel_rfl) rv1 (sC_one _) ?f2 ?f3 ?f4 ?_
    case f2 => (try simp only [List.length_nil]); unfold maxLen; omega
    case f3 => (try simp only [List.length_nil]); omega
    case f4 => exact Nat.le_trans hbs3 (by simp)
    intro v6 w6 own6 gr6 hv6
    have S6 := HA.out w3 w6 v6 S3 own6 gr6
    clear own6 gr6 hv6 S3 HA rv1 oA p0 p1 bP3
    go_frame
    go_wp2_with fail
    exact ⟨⟨k + 1, [(x1, x2)], by omega, by rw [show ((k : Int) + 1) = ((k + 1 : Nat) : Int) by omega], hR3, by simp, S6⟩, by
      rw [show ((k : Int) + 1) = ((k + 1 : Nat) : Int) by omega]
      simp only [intOf, Int.toNat_natCast]
      omega⟩
  · rw [List.concat_eq_append] at hcat
    subst hcat
    obtain ⟨z1, z2⟩ := z
    obtain ⟨m, hm⟩ : ∃ m, m = ini.length := ⟨_, rfl⟩
    have hlm : (ini ++ [(z1, z2)]).length = m + 1 := by rw [hm]; simp
    have hgl : gStep (ini ++ [(z1, z2)]) (x1, x2) = if x1 ≤ z2 then ini ++ [(z1, max z2 x2)] else ini ++ [(z1, z2)] ++ [(x1, x2)] := by
      unfold gStep
      rw [hlm]
      have e : (ini ++ [(z1, z2)]).getD (m + 1 - 1) default = (z1, z2) := by simp [List.getD, hm]
      rw [e]
      by_cases h : x1 ≤ z2
      · rw [if_pos ⟨by omega, h⟩, if_pos h]
        simp [hm]
      · rw [if_neg (fun q => h q.2), if_neg h]
    rw [hgl] at hR2
    have hj : m < (ini ++ [(z1, z2)]).length := by omega
    have hlast : (ini ++ [(z1, z2)]).getD m default = (z1, z2) := by simp [List.getD, hm]
    obtain ⟨g, cap, hv, hgB, hgl2, hgf, hset⟩ := S2.own.set hj (max z2 x2)
    injection hv with hA _ hcp
    subst hA
    subst hcp
    have hSet : Hid (Sps w.heap.size (w2.setCell ⟨g, m * 2 + 1, none⟩ (.int .i64 (max z2 x2))) (.slice (some ⟨g, 0, none⟩) (m + 1) cc) (ini ++ [(z1, max z2 x2)])) := by
      rw [hlast, hlm] at hset
      have e : (ini ++ [(z1, z2)]).set m (z1, max z2 x2) = ini ++ [(z1, max z2 x2)] := by rw [hm]; simp
      rw [e] at hset
      exact hset
    have hz : w2.cell? ⟨g, m * 2 + 1, none⟩ = some (.int .i64 z2) := by
      obtain ⟨b3, off3, hA3, _, _, hc3⟩ := sp_at (Sps.rv S2.own) hj
      injection hA3 with hA3
      injection hA3 with hb3 ho3
      subst hb3
      subst ho3
      rw [Nat.zero_add] at hc3
      have e : (ini ++ [(z1, z2)])[m] = (z1, z2) := by simp [hm]
      rw [e] at hc3
      exact hc3
    have hzd : ∀ q, (w2.drewN q).cell? ⟨g, m * 2 + 1, none⟩ = some (.int .i64 z2) := fun q => hz
    clear hset hgl
    by_cases hx : x1 ≤ z2
    · rw [if_pos hx] at hR2
      have dx : decide (x1 ≤ z2) = true := decide_eq_true hx
      rw [hlm] at hPo KN HA S2
      have hol2 : m + 1 ≤ k := by omega
      have hBel : Hid (Below w.heap.size w (w2.setCell ⟨g, m * 2 + 1, none⟩ (.int .i64 (max z2 x2)))) := S2.bel.setCell hgB _
      rw [hlm]
      clear hlm hj hlast hm hPo
      go_upto_region 6 with fail
      go_quiet (fail)
      have S3 := (KN.out nq).1
      have bP3 := (KN.out nq).2
      have z3 := hzd nq
      have hSet3 : Hid (Sps w.heap.size ((w2.drewN nq).setCell ⟨g, m * 2 + 1, none⟩ (.int .i64 (max z2 x2))) (.slice (some ⟨g, 0, none⟩) (m + 1) cc) (ini ++ [(z1, max z2 x2)])) := hSet
      have hBel3 : Hid (Below w.heap.size w ((w2.drewN nq).setCell ⟨g, m * 2 + 1, none⟩ (.int .i64 (max z2 x2)))) := S3.bel.setCell hgB _
      have hf3 : (w2.drewN nq).frozen? ⟨g, m * 2 + 1, none⟩ = false := hgf
      revert S3 bP3 z3 hSet3 hBel3 hf3
      clear p0 p1 KN HA S2 bP hz hzd hSet hBel hgf
      generalize w2.drewN nq = w3
      intro S3 bP3 z3 hSet3 hBel3 hf3
      have p0 := bP3.at_ (i := 0) (v := .int .i64 x1) rfl
      have p1 := bP3.at_ (i := 1) (v := .int .i64 x2) rfl
      have hln : (ini ++ [(z1, max z2 x2)]).length ≤ k + 1 := by
        have := hSet3.out.1
        have e2 := hSet3.out.2
        simp
        have hle : ini.length + 1 = m + 1 := by
          rcases e2 with ⟨h0, _⟩ | ⟨_, _, _, hv2, _⟩
          · cases h0
          · injection hv2 with _ h3 _
            simpa using h3.symm
        omega
      have S4 : Hid (GatW w ((w3.drew).setCell ⟨g, m * 2 + 1, none⟩ (.int .i64 (max z2 x2))) (.slice (some ⟨g, 0, none⟩) (m + 1) cc) (ini ++ [(z1, max z2 x2)])) := ⟨hSet3.out, ⟨hBel3.out.os, hBel3.out.tape, hBel3.out.output, hBel3.out.size, hBel3.out.block⟩⟩
      replace hln := Lib.hid hln
      clear hSet3 hBel3
      go_upto_region 7 with fail
      go_region
      go_wp2_with fail
      exact ⟨⟨k + 1, ini ++ [(z1, max z2 x2)], by omega, by rw [show ((k : Int) + 1) = ((k + 1 : Nat) : Int) by omega], hR2, hln.out, S4.out⟩, by
        rw [show ((k : Int) + 1) = ((k + 1 : Nat) : Int) by omega]
        simp only [intOf, Int.toNat_natCast]
        omega⟩
    · rw [if_neg hx] at hR2
      have dx : decide (x1 ≤ z2) = false := decide_eq_false hx
      rw [hlm] at hPo KN HA S2
      have hol2 : m + 1 ≤ k := by omega
      rw [hlm]
      obtain ⟨OUT, hOUT⟩ : ∃ o, o = ini ++ [(z1, z2)] := ⟨_, rfl⟩
      rw [← hOUT] at hlm KN HA S2 hR2 hol hnc
      have hln : Hid ((OUT ++ [(x1, x2)]).length ≤ k + 1) := by show _ ≤ _; simp [hlm]; omega
      clear hj hlast hm hPo
      go_upto_region 6 with fail
      go_quiet (fail)
      have S3 := (KN.out nq).1
      have bP3 := (KN.out nq).2
      revert S3 bP3
      clear p0 p1 KN S2 bP hz hzd hgf hSet hOUT
      generalize w2.drewN nq = w3
      intro S3 bP3
      have p0 := bP3.at_ (i := 0) (v := .int .i64 x1) rfl
      have p1 := bP3.at_ (i := 1) (v := .int .i64 x2) rfl
      replace hlm := Lib.hid hlm
      have rv1 : RV (w3.alloc (.cells #[.int .i64 x1, .int .i64 x2] 65)) (some ⟨w3.heap.size, 0, none⟩) (sC (x1, x2)) := RV.new w3 (sC (x1, x2)) 65 (0, 0)
      have oA : (w3.alloc (.cells #[.int .i64 x1, .int .i64 x2] 65)).ownsRow w.heap.size 65 2 (.slice (some ⟨g, 0, none⟩) (m + 1) cc) (m + 1) (flK sC OUT) := by have := S3.own.alloc (.cells #[.int .i64 x1, .int .i64 x2] 65); rwa [hlm.out] at this
      have hbs3 := S3.bel.size
      go_upto_region 8 with fail
      with_reducible refine wp_region_lit ?_
      with_reducible refine wpList_cutAt 3 ?_
      simp only [List.take_succ_cons, List.take_zero, List.drop_succ_cons, List.drop_zero]
      go_wp2_with fail
      with_reducible refine CutQ.go_ ?_
      with_reducible refine wpList_append_rv el_spn (by kernel_rfl) (.tmp 42) (.tmp 44) rfl w.heap.size (.slice (some ⟨g, 0, none⟩) (m + 1) cc) (m + 1) (flK sC OUT) (by kernel_rfl) oA (some ⟨w3.heap.size, 0, none⟩) 1 1 (sC (x1, x2)) (by kernel_rfl) (by kernel_rfl) rv1 (sC_one _) ?f2 ?f3 ?f4 ?_
      case f2 => (try simp only [List.length_append, List.length_cons, List.length_nil]); unfold maxLen; omega
      case f3 => (try simp only [List.length_append, List.length_cons, List.length_nil]); omega
      case f4 => exact Nat.le_trans hbs3 (by simp)
      intro v6 w6 own6 gr6 hv6
      have S6 := HA.out w3 w6 v6 S3 own6 gr6
      clear own6 gr6 hv6 S3 HA rv1 oA p0 p1 bP3
      go_frame
      go_wp2_with fail
      exact ⟨⟨k + 1, OUT ++ [(x1, x2)], by omega, by rw [show ((k : Int) + 1) = ((k + 1 : Nat) : Int) by omega], hR2, hln.out, S6⟩, by
        rw [show ((k : Int) + 1) = ((k + 1 : Nat) : Int) by omega]
        simp only [intOf, Int.toNat_natCast]
        omega⟩
end Go.Proofs.YtendnkklbeiegaaGreatDoor.Al
