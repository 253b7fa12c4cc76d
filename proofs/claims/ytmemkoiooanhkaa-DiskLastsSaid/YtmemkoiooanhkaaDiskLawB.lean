/-
  The walks of the statements DiskNil, DiskNews, DiskOwn: each returns true and changes nothing that was there.
-/
import Derived.Test.YtmemkoiooanhkaaDiskLawA
namespace Go.Proofs.Ytmemkoiooanhkaa
open Go.RowKit DiskP

theorem cut_nil (A : Option Addr) (len cap : Nat) (n : Int) (w : World) : Calls Try.prog 14 #[.pointer none, .slice A len cap, .int .i64 n] w fun e w' => e = .returned (.tuple #[]) ∧ w = w' := by
  go_enter Try.func14, Try.ntmps14
  go_wp2
  refine bodyPost_ret (results_none rfl _ _ _) rfl ?_
  exact ⟨rfl, rfl⟩
theorem on_nil (w : World) : Calls Try.prog 15 #[.pointer none] w fun e w' => e = .returned (.tuple #[]) ∧ w = w' := by
  go_enter Try.func15, Try.ntmps15
  go_wp2
  go_end0
  exact ⟨rfl, rfl⟩
theorem read_nil (n : Int) (w : World) : Calls Try.prog 17 #[.pointer none, .int .i64 n] w fun e w' => e = .returned (.tuple #[.slice none 0 0, .int .i64 6]) ∧ w = w' := by
  go_enter Try.func17, Try.ntmps17
  go_wp2
  go_ret2
  exact ⟨rfl, rfl⟩
theorem size_nil (w : World) : Calls Try.prog 18 #[.pointer none] w fun e w' => e = .returned (.tuple #[.int .i64 0, .int .i64 0]) ∧ w = w' := by
  go_enter Try.func18, Try.ntmps18
  go_wp2
  go_ret2
  exact ⟨rfl, rfl⟩
theorem write_nil (n : Int) (A : Option Addr) (len cap : Nat) (w : World) : Calls Try.prog 12 #[.pointer none, .int .i64 n, .slice A len cap] w fun e w' => e = .returned (.int .i64 6) ∧ w = w' := by
  go_enter Try.func12, Try.ntmps12
  go_wp2
  go_ret
  exact ⟨rfl, rfl⟩
theorem flush_nil (w : World) : Calls Try.prog 11 #[.pointer none] w fun e w' => e = .returned (.int .i64 6) ∧ w = w' := by
  go_enter Try.func11, Try.ntmps11
  go_wp2
  go_ret
  exact ⟨rfl, rfl⟩
theorem waits_nil (w : World) : Calls Try.prog 16 #[.pointer none] w fun e w' => e = .returned (.int .i64 0) ∧ w = w' := by
  go_enter Try.func16, Try.ntmps16
  go_wp2
  go_ret
  exact ⟨rfl, rfl⟩
theorem rot_nil (n m : Int) (w : World) : Calls Try.prog 19 #[.pointer none, .int .i64 n, .int .i64 m] w fun e w' => e = .returned (.int .i64 6) ∧ w = w' := by
  go_enter Try.func19, Try.ntmps19
  go_wp2
  go_ret
  exact ⟨rfl, rfl⟩

theorem diskNil_walk (n : Int) (A : Option Addr) (len cap : Nat) (A2 : Option Addr) (len2 cap2 : Nat) (w : World) :
    Calls Try.prog 8 #[.int .i64 n, .slice A len cap, .slice A2 len2 cap2] w fun e w' => e = .returned (.bool true) ∧ Below w.heap.size w w' := by
  go_enter Try.func8, Try.ntmps8
  go_wp2_with fail
  refine (alive_calls w).mono ?_
  rintro e w1 ⟨rfl, b1⟩
  go_wp2_with fail
  refine (cut_nil A2 len2 cap2 n w1).mono ?_
  rintro e w' ⟨rfl, rfl⟩
  go_wp2_with fail
  refine (on_nil w1).mono ?_
  rintro e w' ⟨rfl, rfl⟩
  go_wp2_with fail
  refine (read_nil n w1).mono ?_
  rintro e w' ⟨rfl, rfl⟩
  go_wp2_with fail
  refine (size_nil w1).mono ?_
  rintro e w' ⟨rfl, rfl⟩
  go_wp2_with fail
  refine (write_nil n A len cap w1).mono ?_
  rintro e w' ⟨rfl, rfl⟩
  go_wp2_with fail
  refine (flush_nil w1).mono ?_
  rintro e w' ⟨rfl, rfl⟩
  go_wp2_with fail
  refine (rot_nil n n w1).mono ?_
  rintro e w' ⟨rfl, rfl⟩
  go_wp2_with fail
  refine (waits_nil w1).mono ?_
  rintro e w' ⟨rfl, rfl⟩
  go_wp2
  go_ret
  exact ⟨rfl, b1⟩

theorem diskNews_skip (n size : Int) (w : World) (h1 : 300 < n) (h2 : n ≤ 65536) (h3 : 64 < size) :
    Calls Try.prog 5 #[.int .i64 n, .int .i64 size] w fun e w' => e = .returned (.bool true) ∧ Below w.heap.size w w' := by
  have d1 : decide (300 < n) = true := by simpa using h1
  have d2 : decide (n ≤ 65536) = true := by simpa using h2
  have d3 : decide (64 < size) = true := by simpa using h3
  go_enter Try.func5, Try.ntmps5
  go_wp2_with fail
  refine (alive_calls w).mono ?_
  rintro e w1 ⟨rfl, b1⟩
  go_wp2
  go_ret
  exact ⟨rfl, b1⟩

theorem diskNews_no (n size : Int) (w : World) (hs : ¬ (300 < n ∧ n ≤ 65536 ∧ 64 < size)) (h : n < 1 ∨ 65536 < n ∨ size < 16 ∨ 4096 < size) :
    Calls Try.prog 5 #[.int .i64 n, .int .i64 size] w fun e w' => e = .returned (.bool true) ∧ Below w.heap.size w w' := by
  have key : ∀ (b1 b2 b3 b4 b5 b6 b7 : Bool), decide (300 < n) = b1 → decide (n ≤ 65536) = b2 → decide (64 < size) = b3 → decide (n < 1) = b4 → decide (65536 < n) = b5 → decide (size < 16) = b6 → decide (4096 < size) = b7 →
      (b1 && b2 && b3) = false → (b4 || b5 || b6 || b7) = true → Calls Try.prog 5 #[.int .i64 n, .int .i64 size] w fun e w' => e = .returned (.bool true) ∧ Below w.heap.size w w' := by
    intro b1 b2 b3 b4 b5 b6 b7 e1 e2 e3 e4 e5 e6 e7 f1 f2
    cases b1 <;> cases b2 <;> cases b3 <;> simp at f1 <;> cases b4 <;> cases b5 <;> cases b6 <;> cases b7 <;> simp at f2
    all_goals first
      | (exfalso; simp at e1 e2 e3 e4 e5 e6 e7; omega)
      | skip
    all_goals
      have H := Lib.hid h
      clear h hs
      go_enter Try.func5, Try.ntmps5
      go_wp2_with fail
      refine (alive_calls w).mono ?_
      rintro e w1 ⟨rfl, b1⟩
      go_wp2_with fail
      refine (new_no n size w1 H.out).mono ?_
      rintro e w' ⟨rfl, rfl⟩
      go_wp2
      go_ret
      exact ⟨rfl, b1⟩
  refine key _ _ _ _ _ _ _ rfl rfl rfl rfl rfl rfl rfl ?_ ?_
  · simp; omega
  · simp; omega

theorem below_drewN' {w w' : World} {q : Nat} (h : Below (w.drewN q).heap.size (w.drewN q) w') : Below w.heap.size w w' := ⟨h.os, h.tape, h.output, h.size, h.block⟩
theorem new_told (n size k : Nat) (hk : k < n) : (newD n size).told[k]? = some (zeroS size) := by
  show (List.replicate n (zeroS size))[k]? = _
  simp [hk]
theorem new_readE (n size : Nat) (h : 1 ≤ n) : (newD n size).readE ((n : Int) - 1) = 0 := by
  have hh : (newD n size).has ((n : Int) - 1) = true := by simp [Dsk.has, newD]; omega
  unfold Dsk.readE
  rw [hh, show ((n : Int) - 1).toNat = n - 1 by omega, new_told n size (n - 1) (by omega)]
  rfl
theorem new_readL (n size : Nat) (h : 1 ≤ n) : (newD n size).readL ((n : Int) - 1) = List.replicate size 0 := by
  unfold DiskP.Dsk.readL
  rw [new_readE n size h, if_pos rfl]
  unfold Dsk.readB
  rw [show ((n : Int) - 1).toNat = n - 1 by omega, new_told n size (n - 1) (by omega)]
  rfl
theorem diskNews_yes (n size : Nat) (w : World) (hs : ¬ (300 < n ∧ 64 < size)) (h1 : 1 ≤ n) (h2 : n ≤ 65536) (h3 : 16 ≤ size) (h4 : size ≤ 4096) :
    Calls Try.prog 5 #[.int .i64 (n : Int), .int .i64 (size : Int)] w fun e w' => e = .returned (.bool true) ∧ Below w.heap.size w w' := by
  have d4 : decide ((n : Int) < 1) = false := by simp; omega
  have d5 : decide (65536 < (n : Int)) = false := by simp; omega
  have d6 : decide ((size : Int) < 16) = false := by simp; omega
  have d7 : decide (4096 < (size : Int)) = false := by simp; omega
  have d2 : decide ((n : Int) ≤ 65536) = true := by simp; omega
  have key : ∀ (b1 b3 : Bool), decide (300 < (n : Int)) = b1 → decide (64 < (size : Int)) = b3 → (b1 && b3) = false →
      Calls Try.prog 5 #[.int .i64 (n : Int), .int .i64 (size : Int)] w fun e w' => e = .returned (.bool true) ∧ Below w.heap.size w w' := by
    intro b1 b3 e1 e3 f1
    clear hs
    cases b1 <;> cases b3 <;> simp only [Bool.and_true, Bool.and_false] at f1
    all_goals first
      | cases f1
      | skip
    all_goals
      go_enter Try.func5, Try.ntmps5
      go_wp2_with fail
      refine (alive_calls w).mono ?_
      rintro e w1 ⟨rfl, b1⟩
      go_wp2_with fail
      refine (new_calls n size w1 h1 h2 h3 h4).mono ?_
      rintro e w2 ⟨y2, rfl, k2, a2, l2, s2, b2⟩
      go_wp2_with fail
      refine (size_calls y2 w2 w1.heap.size k2).mono ?_
      rintro e w3 ⟨rfl, q, rfl⟩
      rw [l2, s2]
      have k3 : DiskOK (w2.drewN q) w1.heap.size y2 := k2.frame fun k _ => rfl
      go_wp2_with fail
      refine (read_calls y2 ((n : Int) - 1) (w2.drewN q) w1.heap.size k3).mono ?_
      rintro e w4 ⟨v4, rfl, o4, b4⟩
      have re : y2.abs.readE ((n : Int) - 1) = 0 := by rw [a2]; exact new_readE n size h1
      have rl : y2.abs.readL ((n : Int) - 1) = List.replicate size 0 := by rw [a2]; exact new_readL n size h1
      rw [rl] at o4
      rw [re]
      obtain ⟨A, c, hv, _, _⟩ := own_form o4
      have hR : RB w4 A (List.replicate size 0) := by rw [hv] at o4; exact RV.of_own o4
      obtain ⟨bb, off, rfl, _, hc⟩ := hR.at_ (k := size - 1) (by simp; omega)
      have hc' : w4.cell? ⟨bb, off + (size - 1), none⟩ = some (.int .u8 0) := by simpa using hc
      rw [hv, show (List.replicate size (0 : UInt8)).length = size by simp]
      have hbel : Below w.heap.size w w4 := (b1.trans (b2.mono b1.size)).trans ((below_drewN' b4).mono (Nat.le_trans b1.size b2.size))
      clear hv hc o4 re rl a2 k2 k3 b1 b2 b4 hR l2 s2
      go_wp2
      go_ret
      exact ⟨rfl, hbel⟩
  refine key _ _ rfl rfl ?_
  simp; omega
theorem diskNews_walk (n size : Int) (w : World) (_h1 : -9223372036854775808 ≤ n) (_h2 : n ≤ 9223372036854775807) :
    Calls Try.prog 5 #[.int .i64 n, .int .i64 size] w fun e w' => e = .returned (.bool true) ∧ Below w.heap.size w w' := by
  by_cases hs : 300 < n ∧ n ≤ 65536 ∧ 64 < size
  · exact diskNews_skip n size w hs.1 hs.2.1 hs.2.2
  · by_cases h : n < 1 ∨ 65536 < n ∨ size < 16 ∨ 4096 < size
    · exact diskNews_no n size w hs h
    · obtain ⟨n, rfl⟩ := Int.eq_ofNat_of_zero_le (show 0 ≤ n by omega)
      obtain ⟨size, rfl⟩ := Int.eq_ofNat_of_zero_le (show 0 ≤ size by omega)
      exact diskNews_yes n size w (by omega) (by omega) (by omega) (by omega) (by omega)
end Go.Proofs.Ytmemkoiooanhkaa
