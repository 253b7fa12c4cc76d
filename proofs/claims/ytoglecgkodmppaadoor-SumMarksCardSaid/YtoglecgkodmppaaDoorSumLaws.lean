/-
  The walks of the statements SumOf, SumJoins, SumMarks, SumFar, SumFixes: each returns true and changes nothing that was there.
-/
import Derived.Test.YtoglecgkodmppaaDoorSumWalkD
namespace Go.Proofs.YtoglecgkodmppaaDoor
open Go.RowKit SumP
attribute [local go_sem] U_not' U_xor U_div2 U_poly U_not

theorem sumOf_walk (l : List UInt8) (A : Option Addr) (cap : Nat) (s : BitVec 32) (w : World) (hT : Tab w) (hl : l.length ≤ 9223372036854775807) (hR : RB w A l) :
    Calls Tryd.prog 3 #[.slice A l.length cap, .int .u32 (U s)] w fun e w' => e = .returned (.bool true) ∧ Below w.heap.size w w' := by
  by_cases hb : 2000 < l.length
  · have d1 : decide (2000 < (l.length : Int)) = true := by simp; omega
    go_enter Tryd.func3, Tryd.ntmps3
    go_wp2_with fail
    refine (wakes_calls w hT).mono ?_
    rintro e w1 ⟨rfl, b1⟩
    go_wp2
    go_ret
    exact ⟨rfl, b1⟩
  · have d1 : decide (2000 < (l.length : Int)) = false := by simp; omega
    go_enter Tryd.func3, Tryd.ntmps3
    go_wp2_with fail
    refine (wakes_calls w hT).mono ?_
    rintro e w1 ⟨rfl, b1⟩
    have hT1 := hT.below b1 hT.lt
    have hR1 := hR.below b1
    go_wp2_with fail
    refine (of_calls l A cap w1 hT1 hl hR1).mono ?_
    rintro e w' ⟨rfl, rfl⟩
    go_wp2_with fail
    refine (refof_calls l A cap w1 hl hR1).mono ?_
    rintro e w' ⟨rfl, rfl⟩
    go_wp2_with fail
    refine (more_calls s l A cap w1 hT1 hl hR1).mono ?_
    rintro e w' ⟨rfl, rfl⟩
    go_wp2_with fail
    refine (refmore_calls s l A cap w1 hl hR1).mono ?_
    rintro e w' ⟨rfl, rfl⟩
    go_wp2
    go_ret
    exact ⟨rfl, b1⟩

theorem sumJoins_walk (a b : BitVec 32) (n : Int) (w : World) (hT : Tab w) (h1 : -9223372036854775808 ≤ n) (h2 : n ≤ 9223372036854775807) :
    Calls Tryd.prog 5 #[.int .u32 (U a), .int .u32 (U b), .int .i64 n] w fun e w' => e = .returned (.bool true) ∧ Below w.heap.size w w' := by
  by_cases hb : 3000 < n ∧ n ≤ 1099511627776
  · obtain ⟨hb1, hb2⟩ := hb
    have d1 : decide (3000 < n) = true := by simp; omega
    have d2 : decide (n ≤ 1099511627776) = true := by simp; omega
    go_enter Tryd.func5, Tryd.ntmps5
    go_wp2_with fail
    refine (wakes_calls w hT).mono ?_
    rintro e w1 ⟨rfl, b1⟩
    go_wp2
    go_ret
    exact ⟨rfl, b1⟩
  · by_cases hn : 0 ≤ n ∧ n ≤ 3000
    · obtain ⟨n, rfl⟩ := Int.eq_ofNat_of_zero_le hn.1
      have d1 : decide (3000 < (n : Int)) = false := by simp; omega
      have hn' : n ≤ 1099511627776 := by omega
      clear hb hn
      go_enter Tryd.func5, Tryd.ntmps5
      go_wp2_with fail
      refine (wakes_calls w hT).mono ?_
      rintro e w1 ⟨rfl, b1⟩
      have hT1 := hT.below b1 hT.lt
      go_wp2_with fail
      refine (join_calls a b n w1 hT1 hn').mono ?_
      rintro e w2 ⟨rfl, b2⟩
      go_wp2_with fail
      refine (refjoin_calls a b n w2 hn').mono ?_
      rintro e w' ⟨rfl, rfl⟩
      go_wp2
      go_ret
      exact ⟨rfl, b1.trans (b2.mono b1.size)⟩
    · have hno : n < 0 ∨ 1099511627776 < n := by omega
      rcases Int.lt_or_le 3000 n with h3 | h3
      · have d1 : decide (3000 < n) = true := by simp; omega
        have d2 : decide (n ≤ 1099511627776) = false := by simp; omega
        clear hb hn
        go_enter Tryd.func5, Tryd.ntmps5
        go_wp2_with fail
        refine (wakes_calls w hT).mono ?_
        rintro e w1 ⟨rfl, b1⟩
        go_wp2_with fail
        refine (join_no a b n w1 hno h1 h2).mono ?_
        rintro e w' ⟨rfl, rfl⟩
        go_wp2_with fail
        refine (refjoin_no a b n w1 hno h1 h2).mono ?_
        rintro e w' ⟨rfl, rfl⟩
        go_wp2
        go_ret
        exact ⟨rfl, b1⟩
      · have d1 : decide (3000 < n) = false := by simp; omega
        clear hb hn
        go_enter Tryd.func5, Tryd.ntmps5
        go_wp2_with fail
        refine (wakes_calls w hT).mono ?_
        rintro e w1 ⟨rfl, b1⟩
        go_wp2_with fail
        refine (join_no a b n w1 hno h1 h2).mono ?_
        rintro e w' ⟨rfl, rfl⟩
        go_wp2_with fail
        refine (refjoin_no a b n w1 hno h1 h2).mono ?_
        rintro e w' ⟨rfl, rfl⟩
        go_wp2
        go_ret
        exact ⟨rfl, b1⟩

theorem sumMarks_walk (l : List UInt8) (A : Option Addr) (cap : Nat) (ws : List Int) (Aw : Option Addr) (capw : Nat) (w : World) (hT : Tab w) (hl : l.length ≤ 9223372036854775807) (hR : RB w A l)
    (hlw : ws.length ≤ 9223372036854775807) (hw : RI w Aw ws) (hwf : ∀ n ∈ ws, -9223372036854775808 ≤ n ∧ n ≤ 9223372036854775807) :
    Calls Tryd.prog 9 #[.slice A l.length cap, .slice Aw ws.length capw] w fun e w' => e = .returned (.bool true) ∧ Below w.heap.size w w' := by
  have HW := Lib.hid hwf
  clear hwf
  by_cases hb : 1000 < l.length
  · have d1 : decide (1000 < (l.length : Int)) = true := by simp; omega
    go_enter Tryd.func9, Tryd.ntmps9
    go_wp2_with fail
    refine (wakes_calls w hT).mono ?_
    rintro e w1 ⟨rfl, b1⟩
    go_wp2
    go_ret
    exact ⟨rfl, b1⟩
  · have d1 : decide (1000 < (l.length : Int)) = false := by simp; omega
    by_cases hb2 : 50 < ws.length
    · have d2 : decide (50 < (ws.length : Int)) = true := by simp; omega
      go_enter Tryd.func9, Tryd.ntmps9
      go_wp2_with fail
      refine (wakes_calls w hT).mono ?_
      rintro e w1 ⟨rfl, b1⟩
      go_wp2
      go_ret
      exact ⟨rfl, b1⟩
    · have d2 : decide (50 < (ws.length : Int)) = false := by simp; omega
      go_enter Tryd.func9, Tryd.ntmps9
      go_wp2_with fail
      refine (wakes_calls w hT).mono ?_
      rintro e w1 ⟨rfl, b1⟩
      have hT1 := hT.below b1 hT.lt
      have hR1 := hR.below b1
      have hw1 := hw.below b1
      go_wp2_with fail
      refine (mark_calls l A cap ws Aw capw w1 hT1 hl hR1 hlw hw1 HW.out).mono ?_
      rintro e w2 ⟨rfl, b2⟩
      have hR2 := hR1.below b2
      have hw2 := hw1.below b2
      go_wp2_with fail
      refine (refmark_calls l A cap ws Aw capw w2 hl hR2 hlw hw2 HW.out).mono ?_
      rintro e w3 ⟨rfl, b3⟩
      go_wp2
      go_ret
      exact ⟨rfl, (b1.trans (b2.mono b1.size)).trans (b3.mono (Nat.le_trans b1.size b2.size))⟩
end Go.Proofs.YtoglecgkodmppaaDoor
