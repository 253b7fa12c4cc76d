/-
  Walks: cmp.Compare at the ring's types; cmp.Or; the order of points.
-/
import Derived.Test.YtnjcaepbelgpfaaGreatDoorProg
import Derived.Test.YtnjcaepbelgpfaaGreatDoorRowK
import Derived.Test.YtnjcaepbelgpfaaGreatDoorGrow
import Derived.Test.YtnjcaepbelgpfaaGreatDoorKept
import Derived.Laws.Cover1
import Derived.Sort.LotA
import Derived.Lib.Hide
import Derived.Deep.RegionHeld
import Derived.Deep.Cut
import Derived.ProofKit
namespace Go.Proofs.YtnjcaepbelgpfaaGreatDoor
open Go.RowKit

def cmpN (x y : Int) : Int := if x < y then -1 else if y < x then 1 else 0
def cmpS (x y : List UInt8) : Int := if x < y then -1 else if y < x then 1 else 0
def orI (a b : Int) : Int := if a = 0 then b else a
theorem bless_eq : ∀ (x y : List UInt8), Op.bytesLess x y = decide (x < y)
  | [], [] => by simp [Op.bytesLess]
  | _ :: _, [] => by simp [Op.bytesLess]
  | [], _ :: _ => by simp [Op.bytesLess]
  | a :: x, b :: y => by
    rw [Op.bytesLess, bless_eq x y]
    by_cases h : a < b
    · simp [h, List.cons_lt_cons_iff]
    · by_cases h2 : a = b
      · subst h2; simp
      · simp [h, h2, List.cons_lt_cons_iff]
theorem bstr_list (x : List UInt8) : (bstr x).toList = x := by rw [Lib.toList_data]; simp [bstr]
theorem tri_S {x y : List UInt8} (h1 : ¬ x < y) (h2 : ¬ y < x) : x = y := List.le_antisymm (List.not_lt.1 h2) (List.not_lt.1 h1)
theorem less_lt (x y : List UInt8) : Op.bytesLess (bstr x).toList (bstr y).toList = decide (x < y) := by rw [bstr_list, bstr_list, bless_eq]
theorem same_S (x y : List UInt8) : ((bstr x).toList == (bstr y).toList) = decide (x = y) := by
  rw [bstr_list, bstr_list]
  by_cases h : x = y <;> simp [h]
theorem cmpu_calls (x y : Int) (w : World) : Calls Tryz.prog 23 #[.int .u64 x, .int .u64 y] w fun e w' => e = .returned (.int .i64 (cmpN x y)) ∧ w' = w := by
  obtain ⟨r, hr⟩ : ∃ r, r = cmpN x y := ⟨_, rfl⟩
  rw [← hr]
  unfold cmpN at hr
  by_cases h1 : x < y
  · rw [if_pos h1] at hr
    replace hr := Lib.hid hr
    go_enter Tryz.func23, Tryz.ntmps23
    go_wp2
    go_ret
    exact ⟨by rw [hr.out]; rfl, rfl⟩
  · by_cases h2 : y < x
    · rw [if_neg h1, if_pos h2] at hr
      replace hr := Lib.hid hr
      go_enter Tryz.func23, Tryz.ntmps23
      go_wp2
      go_ret
      exact ⟨by rw [hr.out]; rfl, rfl⟩
    · rw [if_neg h1, if_neg h2] at hr
      replace hr := Lib.hid hr
      go_enter Tryz.func23, Tryz.ntmps23
      go_wp2
      go_ret
      exact ⟨by rw [hr.out]; rfl, rfl⟩
theorem cmpi_calls (x y : Int) (w : World) : Calls Tryz.prog 28 #[.int .i64 x, .int .i64 y] w fun e w' => e = .returned (.int .i64 (cmpN x y)) ∧ w' = w := by
  obtain ⟨r, hr⟩ : ∃ r, r = cmpN x y := ⟨_, rfl⟩
  rw [← hr]
  unfold cmpN at hr
  by_cases h1 : x < y
  · rw [if_pos h1] at hr
    replace hr := Lib.hid hr
    go_enter Tryz.func28, Tryz.ntmps28
    go_wp2
    go_ret
    exact ⟨by rw [hr.out]; rfl, rfl⟩
  · by_cases h2 : y < x
    · rw [if_neg h1, if_pos h2] at hr
      replace hr := Lib.hid hr
      go_enter Tryz.func28, Tryz.ntmps28
      go_wp2
      go_ret
      exact ⟨by rw [hr.out]; rfl, rfl⟩
    · rw [if_neg h1, if_neg h2] at hr
      replace hr := Lib.hid hr
      go_enter Tryz.func28, Tryz.ntmps28
      go_wp2
      go_ret
      exact ⟨by rw [hr.out]; rfl, rfl⟩
theorem cmps_calls (x y : List UInt8) (w : World) : Calls Tryz.prog 24 #[.string (bstr x), .string (bstr y)] w fun e w' => e = .returned (.int .i64 (cmpS x y)) ∧ w' = w := by
  obtain ⟨r, hr⟩ : ∃ r, r = cmpS x y := ⟨_, rfl⟩
  rw [← hr]
  unfold cmpS at hr
  by_cases h1 : x < y
  · rw [if_pos h1] at hr
    replace hr := Lib.hid hr
    have g1 : Op.bytesLess (bstr x).toList (bstr y).toList = true := by rw [less_lt]; simp [h1]
    go_enter Tryz.func24, Tryz.ntmps24
    go_wp2
    go_ret
    exact ⟨by rw [hr.out]; rfl, rfl⟩
  · by_cases h2 : y < x
    · rw [if_neg h1, if_pos h2] at hr
      replace hr := Lib.hid hr
      have g1 : Op.bytesLess (bstr x).toList (bstr y).toList = false := by rw [less_lt]; simp [h1]
      have g2 : ((bstr x).toList == (bstr y).toList) = false := by rw [same_S]; exact decide_eq_false (fun e => by subst e; exact h1 h2)
      go_enter Tryz.func24, Tryz.ntmps24
      go_wp2
      go_ret
      exact ⟨by rw [hr.out]; rfl, rfl⟩
    · rw [if_neg h1, if_neg h2] at hr
      replace hr := Lib.hid hr
      have g1 : Op.bytesLess (bstr x).toList (bstr y).toList = false := by rw [less_lt]; simp [h1]
      have g2 : ((bstr x).toList == (bstr y).toList) = true := by rw [same_S]; exact decide_eq_true (tri_S h1 h2)
      go_enter Tryz.func24, Tryz.ntmps24
      go_wp2
      go_ret
      exact ⟨by rw [hr.out]; rfl, rfl⟩
set_option maxRecDepth 100000 in
theorem or_calls (a c : Int) (b off cap : Nat) (w : World) (h0 : w.cell? ⟨b, off, none⟩ = some (.int .i64 a)) (h1 : w.cell? ⟨b, off + 1, none⟩ = some (.int .i64 c)) :
    Calls Tryz.prog 22 #[.slice (some ⟨b, off, none⟩) 2 cap] w fun e w' => e = .returned (.int .i64 (orI a c)) ∧ w' = w := by
  obtain ⟨r, hr⟩ : ∃ r, r = orI a c := ⟨_, rfl⟩
  rw [← hr]
  unfold orI at hr
  replace hr := Lib.hid hr
  have hc : ∀ k : Nat, k < 2 → w.cell? ⟨b, off + k, none⟩ = some (.int .i64 (if k = 0 then a else c)) := fun k hk => by
    rcases Nat.lt_or_ge k 1 with h | h
    · obtain rfl : k = 0 := by omega
      exact h0
    · obtain rfl : k = 1 := by omega
      exact h1
  clear h0 h1
  go_enter Tryz.func22, Tryz.ntmps22
  go_wp2
  go_loopw [8] (fun i wr => ∃ k : Nat, k ≤ 2 ∧ i = .int .i64 k ∧ (1 ≤ k → a = 0) ∧ (2 ≤ k → c = 0) ∧ wr = w) (fun i _ => 2 - (intOf i).toNat)
  case atStart => exact ⟨0, by omega, rfl, fun h => by omega, fun h => by omega, rfl⟩
  case round =>
    obtain ⟨k, hk, rfl, ha, hc2, rfl⟩ := hrel
    by_cases hlt : k < 2
    · have dec : decide ((k : Int) < 2) = true := decide_eq_true (by omega)
      have dec' : decide (k < 2) = true := decide_eq_true hlt
      have hck := hc k hlt
      obtain ⟨v, hv⟩ : ∃ v : Int, v = if k = 0 then a else c := ⟨_, rfl⟩
      rw [← hv] at hck
      clear hc
      by_cases h0 : v = 0
      · have ha2 : Hid ((1 ≤ k + 1 → a = 0) ∧ (2 ≤ k + 1 → c = 0)) := by
          refine ⟨fun _ => ?_, fun h => ?_⟩
          · by_cases e : k = 0
            · rw [if_pos e] at hv; omega
            · exact ha (by omega)
          · rw [if_neg (by omega)] at hv; omega
        subst h0
        clear hv ha hc2 hr
        go_wp2
        refine ⟨⟨k + 1, by omega, by rw [show ((k : Int) + 1) = ((k + 1 : Nat) : Int) by omega], ha2.out.1, ha2.out.2, trivial⟩, ?_⟩
        rw [show ((k : Int) + 1) = ((k + 1 : Nat) : Int) by omega]
        simp only [intOf, Int.toNat_natCast]
        omega
      · have hr2 : Hid (r = v) := by
          show r = v
          rw [hr.out]
          by_cases e : k = 0
          · rw [if_pos e] at hv
            rw [if_neg (by omega), hv]
          · rw [if_neg e] at hv
            rw [if_pos (ha (by omega)), hv]
        clear hv ha hc2 hr
        go_wp2
        go_ret
        exact ⟨by rw [hr2.out]; rfl, rfl⟩
    · obtain rfl : k = 2 := by omega
      have hr2 : Hid (r = 0) := by
        show r = 0
        rw [hr.out, if_pos (ha (by omega)), hc2 (by omega)]
      clear ha hc2 hr hc
      go_wp2
      go_ret
      exact ⟨by rw [hr2.out]; rfl, rfl⟩

/-- A point: where it stands, and whose it is. -/
abbrev Pt := Int × List UInt8
def pC (p : Pt) : List Value := [.int .u64 p.1, .string (bstr p.2)]
theorem pC_len : ∀ p, (pC p).length = 2 := fun _ => rfl
theorem pC_one (p : Pt) : ∀ u ∈ pC p, u.oneCell' = true := fun u hu => by
  rcases List.mem_cons.1 hu with rfl | hu
  · rfl
  · rw [List.mem_singleton.1 hu]; rfl
def ptF (x y : Pt) : Int := orI (cmpN x.1 y.1) (cmpS x.2 y.2)
theorem ptF_lt (x y : Pt) : ptF x y < 0 ↔ x.1 < y.1 ∨ (x.1 = y.1 ∧ x.2 < y.2) := by
  unfold ptF orI cmpN cmpS
  by_cases h1 : x.1 < y.1
  · simp [h1]
  · by_cases h2 : y.1 < x.1
    · simp [h1, h2]; omega
    · have h3 : x.1 = y.1 := by omega
      by_cases h4 : x.2 < y.2
      · simp [h3, h4]
      · by_cases h5 : y.2 < x.2 <;> simp [h3, h4, h5]
theorem pt_lt (x y : Pt) : ltOf ptF x y = decide (x.1 < y.1 ∨ (x.1 = y.1 ∧ x.2 < y.2)) := by
  unfold ltOf
  exact decide_eq_decide.2 (ptF_lt x y)
/-- The order of points is one. -/
theorem pt_swo : Sort.SWO (ltOf ptF) where
  irrefl x := by
    rw [pt_lt]
    simp [List.lt_irrefl]
  trans x y z h1 h2 := by
    rw [pt_lt] at *
    simp only [decide_eq_true_eq] at *
    rcases h1 with h1 | ⟨h1, h3⟩ <;> rcases h2 with h2 | ⟨h2, h4⟩
    · exact .inl (by omega)
    · exact .inl (by omega)
    · exact .inl (by omega)
    · exact .inr ⟨by omega, List.lt_trans h3 h4⟩
  ntrans x y z h1 h2 := by
    rw [pt_lt] at *
    simp only [decide_eq_false_iff_not, not_or, not_and] at *
    refine ⟨by omega, fun e => ?_⟩
    have e1 : x.1 = y.1 := by omega
    have e2 : y.1 = z.1 := by omega
    exact List.not_lt.2 (List.le_trans (List.not_lt.1 (h2.2 e2)) (List.not_lt.1 (h1.2 e1)))
set_option maxRecDepth 100000 in
set_option maxHeartbeats 1600000 in
/-- The order that Add sorts by, called. -/
theorem order_calls (x y : Pt) (W : World) : Calls Tryz.prog 21 #[.agg #[.int .u64 x.1, .string (bstr x.2)], .agg #[.int .u64 y.1, .string (bstr y.2)]] W fun e w' => e = .returned (.int .i64 (ptF x y)) ∧ ∃ q os', w' = Sort.grow (W.drewN q) os' := by
  obtain ⟨c1, h1⟩ : ∃ c, c = cmpN x.1 y.1 := ⟨_, rfl⟩
  obtain ⟨c2, h2⟩ : ∃ c, c = cmpS x.2 y.2 := ⟨_, rfl⟩
  obtain ⟨c3, h3⟩ : ∃ c, c = ptF x y := ⟨_, rfl⟩
  have e3 : Hid (c3 = orI c1 c2) := by show _ = _; rw [h3, h1, h2]; rfl
  have u := fun w => cmpu_calls x.1 y.1 w
  have s := fun w => cmps_calls x.2 y.2 w
  rw [← h1] at u
  rw [← h2] at s
  rw [← h3]
  clear h1 h2 h3
  obtain ⟨a1, s1⟩ := x
  obtain ⟨a2, s2⟩ := y
  dsimp only at u s
  obtain ⟨W1, hW1⟩ : ∃ W1, W1 = W.alloc (.cells #[.int .u64 a1, .string (bstr s1)] 64) := ⟨_, rfl⟩
  have b1 := Blk.new W 64 #[.int .u64 a1, .string (bstr s1)]
  rw [← hW1] at b1
  have b2 := Blk.new W1 64 #[.int .u64 a2, .string (bstr s2)]
  have n1 : W1.heap.size = W.heap.size + 1 := by rw [hW1]; simp
  have b1' := b1.alloc (.cells #[.int .u64 a2, .string (bstr s2)] 64)
  obtain ⟨W2, hW2⟩ : ∃ W2, W2 = W1.alloc (.cells #[.int .u64 a2, .string (bstr s2)] 64) := ⟨_, rfl⟩
  rw [← hW2] at b1' b2
  have HW : Hid (W2 = Sort.grow W #[.cells #[.int .u64 a1, .string (bstr s1)] 64, .cells #[.int .u64 a2, .string (bstr s2)] 64]) := by
    show _ = _
    rw [hW2, hW1, Sort.alloc_eq_grow, Sort.alloc_eq_grow, Sort.grow_grow]
    rfl
  go_enter Tryz.func21, Tryz.ntmps21
  go_upto_region 1 with fail
  rw [← hW1]
  simp only [← hW2]
  rw [n1] at b2
  have n2 : W2.heap.size = W.heap.size + 2 := by rw [hW2]; simp [n1]
  try simp only [World.size_alloc]
  clear hW1 hW2 b1 n1
  have k1 := b1'.at_ (i := 0) (v := .int .u64 a1) rfl
  have k2 := b1'.at_ (i := 1) (v := .string (bstr s1)) rfl
  have k3 := b2.at_ (i := 0) (v := .int .u64 a2) rfl
  have k4 := b2.at_ (i := 1) (v := .string (bstr s2)) rfl
  have g5 := Blk.new W2 3 #[.int .i64 c1, .int .i64 c2]
  rw [n2] at g5
  have f5 := or_calls c1 c2 (W.heap.size + 2) 0 2 (W2.alloc (.cells #[.int .i64 c1, .int .i64 c2] 3)).drew (g5.drew.at_ rfl) (g5.drew.at_ rfl)
  clear g5
  have f3 := u W2.drew
  have f4 := s W2.drew
  clear u s b1' b2
  go_region_held (fun wq => wq.cell? ⟨W.heap.size, 0, none⟩ = some (.int .u64 a1) ∧ wq.cell? ⟨W.heap.size, 1, none⟩ = some (.string (bstr s1)) ∧ wq.cell? ⟨W.heap.size + 1, 0, none⟩ = some (.int .u64 a2) ∧ wq.cell? ⟨W.heap.size + 1, 1, none⟩ = some (.string (bstr s2))) (first | exact k1 | exact k2 | go_keep) (first
    | (go_at_call 23; (with_reducible refine f3.mono ?_); rintro e w' ⟨rfl, rfl⟩)
    | (go_at_call 24; (with_reducible refine f4.mono ?_); rintro e w' ⟨rfl, rfl⟩)
    | (go_at_call 22; (with_reducible refine f5.mono ?_); rintro e w' ⟨rfl, rfl⟩))
  go_wp2
  go_ret
  refine ⟨by rw [e3.out]; rfl, 1, #[.cells #[.int .u64 a1, .string (bstr s1)] 64, .cells #[.int .u64 a2, .string (bstr s2)] 64] ++ #[.cells #[.int .i64 c1, .int .i64 c2] 3], ?_⟩
  rw [Sort.alloc_eq_grow, HW.out, Sort.grow_grow]
  rfl
end Go.Proofs.YtnjcaepbelgpfaaGreatDoor
