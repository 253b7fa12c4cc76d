/-
  Walk: the place of an object among the points.
-/
import Derived.Test.YtnjcaepbelgpfaaGreatDoorTopCmp
namespace Go.Proofs.YtnjcaepbelgpfaaGreatDoor
open Go.RowKit

theorem own1_calls (x : Pt) (t : Int) (W : World) : Calls Tryz.prog 35 #[.agg #[.int .u64 x.1, .string (bstr x.2)], .int .u64 t] W fun e w' => e = .returned (.int .i64 (cmpN x.1 t)) ∧ Below W.heap.size W w' := by
  have u := fun w => cmpu_calls x.1 t w
  obtain ⟨c, hc⟩ : ∃ c, c = cmpN x.1 t := ⟨_, rfl⟩
  rw [← hc] at u ⊢
  clear hc
  have B1 : Below W.heap.size W (W.alloc (.cells #[.int .u64 x.1, .string (bstr x.2)] 64)) := (Below.refl _ _).alloc (Nat.le_refl _) _
  replace B1 := Lib.hid B1
  go_enter Tryz.func35, Tryz.ntmps35
  go_wp2_with (go_at_call 23; (with_reducible refine (u _).mono ?_); rintro e w' ⟨rfl, rfl⟩)
  go_ret
  exact ⟨rfl, B1.out⟩
/-- Binary search, as the library does it. -/
def bsGo (L : List Pt) (t : Int) : Nat → Nat → Nat → Nat
  | 0, lo, _ => lo
  | f + 1, lo, hi => if lo < hi then (if cmpN (L.getD ((lo + hi) / 2) default).1 t < 0 then bsGo L t f ((lo + hi) / 2 + 1) hi else bsGo L t f lo ((lo + hi) / 2)) else lo
def bsI (L : List Pt) (t : Int) : Nat := bsGo L t L.length 0 L.length
/-- Whether a point stands just there. -/
def bsB (L : List Pt) (t : Int) : Bool := decide (bsI L t < L.length) && decide (cmpN (L.getD (bsI L t) default).1 t = 0)
theorem bsGo_le (L : List Pt) (t : Int) : ∀ (f lo hi : Nat), lo ≤ hi → bsGo L t f lo hi ≤ hi
  | 0, lo, hi, h => h
  | f + 1, lo, hi, h => by
    unfold bsGo
    split
    · split
      · exact bsGo_le L t f _ _ (by omega)
      · exact Nat.le_trans (bsGo_le L t f _ _ (by omega)) (by omega)
    · exact h
theorem bsI_le (L : List Pt) (t : Int) : bsI L t ≤ L.length := bsGo_le L t _ _ _ (Nat.zero_le _)
theorem bsGo_step (L : List Pt) (t : Int) {f lo hi : Nat} (h : lo < hi) (hf : hi - lo ≤ f) : bsGo L t f lo hi = if cmpN (L.getD ((lo + hi) / 2) default).1 t < 0 then bsGo L t (f - 1) ((lo + hi) / 2 + 1) hi else bsGo L t (f - 1) lo ((lo + hi) / 2) := by
  cases f with
  | zero => omega
  | succ f =>
    rw [bsGo, if_pos h]
    rfl
theorem bsGo_end (L : List Pt) (t : Int) {f lo hi : Nat} (h : ¬ lo < hi) : bsGo L t f lo hi = lo := by
  cases f with
  | zero => rfl
  | succ f => rw [bsGo, if_neg h]
/-- Point i's cells. -/
theorem pt_at {w : World} {A : Option Addr} {L : List Pt} (h : RV w A (flK pC L)) {i : Nat} (hi : i < L.length) :
    ∃ b off, A = some ⟨b, off, none⟩ ∧ b < w.heap.size ∧ w.cell? ⟨b, off + i * 2, none⟩ = some (.int .u64 L[i].1) ∧ w.cell? ⟨b, off + i * 2 + 1, none⟩ = some (.string (bstr L[i].2)) := by
  have h0 : flK pC L ≠ [] := by
    intro e
    have e2 := congrArg List.length e
    rw [flK_len pC_len] at e2
    have e3 : L.length * 2 = 0 := e2
    omega
  obtain ⟨b, off, rfl, hb, hc⟩ := h h0
  have e0 := flK_at pC_len hi (j := 0) (by omega)
  have e1 := flK_at pC_len hi (j := 1) (by omega)
  exact ⟨b, off, rfl, hb, hc (i * 2) _ e0, hc (i * 2 + 1) _ e1⟩
set_option maxRecDepth 100000 in
set_option maxHeartbeats 1600000 in
theorem search_calls (L : List Pt) (hl : L.length ≤ 100000) (A : Option Addr) (c : Nat) (t : Int) (w : World) (hR : RV w A (flK pC L)) :
    Calls Tryz.prog 34 #[.slice A L.length c, .int .u64 t, .func (.func 35) #[] #[]] w fun e w' => e = .returned (.tuple #[.int .i64 (bsI L t : Int), .bool (bsB L t)]) ∧ Below w.heap.size w w' := by
  obtain ⟨res, hres⟩ : ∃ r, r = bsI L t := ⟨_, rfl⟩
  obtain ⟨rb, hrb⟩ : ∃ b, b = bsB L t := ⟨_, rfl⟩
  rw [← hres, ← hrb]
  unfold bsB at hrb
  rw [← hres] at hrb
  unfold bsI at hres
  replace hres := Lib.hid hres
  replace hrb := Lib.hid hrb
  go_enter Tryz.func34, Tryz.ntmps34
  go_wp2
  go_loopw [9, 10] (fun x y wr => ∃ lo hi f : Nat, x = .int .i64 lo ∧ y = .int .i64 hi ∧ lo ≤ hi ∧ hi ≤ L.length ∧ hi - lo ≤ f ∧ Hid (res = bsGo L t f lo hi) ∧ Below w.heap.size w wr) (fun x y _ => (intOf y).toNat - (intOf x).toNat)
  case atStart => exact ⟨0, L.length, L.length, rfl, rfl, Nat.zero_le _, Nat.le_refl _, Nat.le_refl _, hres, Below.refl _ _⟩
  case round =>
    clear hres
    obtain ⟨lo, hi, f, rfl, rfl, h1, h2, h3, hr, hB⟩ := hrel
    by_cases hlt : lo < hi
    · have dec : decide ((lo : Int) < (hi : Int)) = true := decide_eq_true (by omega)
      have dec' : decide (lo < hi) = true := decide_eq_true hlt
      have hm : (lo + hi) / 2 < L.length := by omega
      obtain ⟨b, off, rfl, hb, c0, c1⟩ := pt_at (hR.below hB) hm
      have hg : L.getD ((lo + hi) / 2) default = L[(lo + hi) / 2] := by simp [List.getD, hm]
      have hr2 := hr.out
      rw [bsGo_step L t hlt h3, hg] at hr2
      generalize L[(lo + hi) / 2] = x at *
      have u := fun w => own1_calls x t w
      obtain ⟨cv, hcv⟩ : ∃ c, c = cmpN x.1 t := ⟨_, rfl⟩
      rw [← hcv] at hr2 u
      clear hcv hg hr
      obtain ⟨x1, x2⟩ := x
      replace hr2 := Lib.hid hr2
      replace hB := Lib.hid hB
      by_cases hcv : cv < 0
      · have hr3 : Hid (res = bsGo L t (f - 1) ((lo + hi) / 2 + 1) hi) := by show _ = _; rw [hr2.out, if_pos hcv]
        clear hr2
        go_wp2_with (go_at_call 35; (with_reducible refine (u _).mono ?_); rintro e w' ⟨rfl, b1⟩)
        have e1 : ((lo : Int) + (hi : Int)) / 2 + 1 = (((lo + hi) / 2 + 1 : Nat) : Int) := by omega
        refine ⟨⟨(lo + hi) / 2 + 1, hi, f - 1, by rw [e1], rfl, by omega, h2, by omega, hr3, hB.out.trans (b1.mono hB.out.size)⟩, ?_⟩
        rw [e1]
        simp only [intOf, Int.toNat_natCast]
        omega
      · have hr3 : Hid (res = bsGo L t (f - 1) lo ((lo + hi) / 2)) := by show _ = _; rw [hr2.out, if_neg hcv]
        have hcv' : 0 ≤ cv := by omega
        clear hr2
        go_wp2_with (go_at_call 35; (with_reducible refine (u _).mono ?_); rintro e w' ⟨rfl, b1⟩)
        have e1 : ((lo : Int) + (hi : Int)) / 2 = (((lo + hi) / 2 : Nat) : Int) := by omega
        refine ⟨⟨lo, (lo + hi) / 2, f - 1, rfl, by rw [e1], by omega, by omega, by omega, hr3, hB.out.trans (b1.mono hB.out.size)⟩, ?_⟩
        rw [e1]
        simp only [intOf, Int.toNat_natCast]
        omega
    · have dec : decide ((lo : Int) < (hi : Int)) = false := decide_eq_false (by omega)
      have dec' : decide (lo < hi) = false := decide_eq_false hlt
      have hr3 : Hid (res = lo) := by show _ = _; rw [hr.out, bsGo_end L t hlt]
      clear hr
      replace hB := Lib.hid hB
      by_cases hln : lo < L.length
      · have dn : decide ((lo : Int) < (L.length : Int)) = true := decide_eq_true (by omega)
        have dn' : decide (lo < L.length) = true := decide_eq_true hln
        obtain ⟨b, off, rfl, hb, c0, c1⟩ := pt_at (hR.below hB.out) hln
        have hg : L.getD lo default = L[lo] := by simp [List.getD, hln]
        have hb3 := hrb.out
        rw [hr3.out, hg] at hb3
        simp only [hln, decide_true, Bool.true_and] at hb3
        clear hrb hg
        generalize L[lo] = x at *
        have u := fun w => own1_calls x t w
        generalize cmpN x.1 t = cv at u hb3
        replace hb3 := Lib.hid hb3
        obtain ⟨x1, x2⟩ := x
        go_wp2_with (go_at_call 35; (with_reducible refine (u _).mono ?_); rintro e w' ⟨rfl, b1⟩)
        go_ret2
        exact ⟨by rw [hr3.out, hb3.out]; rfl, hB.out.trans (b1.mono hB.out.size)⟩
      · have hb3 : Hid (rb = false) := by show _ = _; rw [hrb.out, hr3.out, decide_eq_false hln]; rfl
        clear hrb
        have dn : decide ((lo : Int) < (L.length : Int)) = false := decide_eq_false (by omega)
        have dn' : decide (lo < L.length) = false := decide_eq_false hln
        go_wp2_with fail
        go_ret2
        exact ⟨by rw [hr3.out, hb3.out]; rfl, hB.out⟩
end Go.Proofs.YtnjcaepbelgpfaaGreatDoor
