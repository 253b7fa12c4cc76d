/-
  Walk: the law TopDown.
-/
import Derived.Test.YtnjcaepbelgpfaaGreatDoorTopDownL
namespace Go.Proofs.YtnjcaepbelgpfaaGreatDoor
open Go.RowKit Go.Maps Go.WideMaps TopP Go.Shelf

set_option maxRecDepth 100000 in
set_option maxHeartbeats 3200000 in
theorem topDown_walk (w : World) (a b d : Nat) (ha : a ≤ 255) (hb : b ≤ 255) (hd : d ≤ 255) (A : Option Addr) (cap : Nat) (l : List Txt) (hl : l.length ≤ 9223372036854775807) (hz : ∀ t ∈ l, t.length ≤ 9223372036854775807) (hR : RV w A (l.map sV)) :
    Calls Tryz.prog 3 #[.agg #[.int .u8 a, .int .u8 b, .int .u8 d], .slice A l.length cap] w fun e w' => e = .returned (.bool true) ∧ Below w.heap.size w w' := by
  obtain ⟨n, hn⟩ : ∃ n, n = 2 + a % 6 := ⟨_, rfl⟩
  obtain ⟨p, hp⟩ : ∃ p, p = 1 + b % (n - 1) := ⟨_, rfl⟩
  have hn2 : 2 ≤ n ∧ n ≤ 7 := by omega
  have hp2 : 1 ≤ p ∧ p < n := by
    have := Nat.mod_lt b (show 0 < n - 1 by omega)
    omega
  obtain ⟨g, hg⟩ : ∃ g, g = n - p + d % p := ⟨_, rfl⟩
  have hg2 : n - p ≤ g ∧ g < n := by
    have := Nat.mod_lt d (show 0 < p by omega)
    omega
  have NC := fun w => new_calls n p hp2.1 hp2.2 hn2.2 w
  have AC := fun w => alive_calls w
  have en : (2 : Int) + ((a : Int) % 6) = (n : Int) := by omega
  have ep : (1 : Int) + ((b : Int) % ((n : Int) - 1)) = (p : Int) := by
    rw [show (n : Int) - 1 = ((n - 1 : Nat) : Int) by omega, ← Int.natCast_emod, hp]
    omega
  have eg : (n : Int) - (p : Int) + ((d : Int) % (p : Int)) = (g : Int) := by
    rw [← Int.natCast_emod, hg]
    omega
  have bW := Blk.new w 22 #[.int .u8 a, .int .u8 b, .int .u8 d]
  have B0 := (Below.refl w.heap.size w).alloc (Nat.le_refl _) (.cells #[.int .u8 a, .int .u8 b, .int .u8 d] 22)
  clear hn hp hg
  go_enter Tryz.func3, Tryz.ntmps3
  go_upto_region 1 with fail
  revert bW B0
  generalize (w.alloc (.cells #[.int .u8 a, .int .u8 b, .int .u8 d] 22)) = w1
  intro bW B0
  obtain ⟨gW, hgW⟩ : ∃ g, g = w.heap.size := ⟨_, rfl⟩
  rw [← hgW] at bW ⊢
  clear hgW
  have f0 := bW.at_ (i := 0) (v := .int .u8 a) rfl
  have f1 := bW.at_ (i := 1) (v := .int .u8 b) rfl
  have dn1 : (n : Int) - 1 ≠ 0 := by omega
  have dp1 : (p : Int) ≠ 0 := by omega
  go_upto_region 3 with fail
  go_upto_region 4 with (go_at_call 4; (with_reducible refine (NC _).mono ?_); rintro e wN ⟨T, r, db, L, rfl, tier, bN, low, dT, Tr, len, mem, hk⟩)
  obtain ⟨c, hc⟩ : ∃ c, c = n - p := ⟨_, rfl⟩
  rw [← hc] at tier mem hg2
  have C : DownC w wN T n c r db p L := ⟨hk, Nat.le_trans B0.size low, dT, Tr, by omega, by omega, hp2.1, hn2.2, len, mem⟩
  have S0 : DownW w wN wN T n c r db p L 0 (fun _ => false) := ⟨tier, Agree.refl r wN, B0.trans (bN.mono B0.size)⟩
  have f2 := (bW.below bN bW.lt).at_ (i := 2) (v := .int .u8 d) rfl
  have hcn : Hid (c + p = n) := C.cp
  clear NC tier bN low dT Tr len mem hk bW B0 f0 f1 dn1 hc en ep
  by_cases h20 : 20 < l.length
  · have d20 : (20 : Int) < (l.length : Int) := by omega
    go_wp2_with (go_at_call 5; (with_reducible refine (AC _).mono ?_); rintro e w3 ⟨rfl, b3⟩)
    go_ret
    exact ⟨rfl, S0.bel.trans (b3.mono S0.bel.size)⟩
  have d20 : ¬ (20 : Int) < (l.length : Int) := by omega
  replace C := Lib.hid C
  go_wp2_with fail
  clear f2 eg d20
  go_loopw [67] (fun i wr => ∃ k : Nat, k ≤ l.length ∧ i = .int .i64 (k : Int) ∧ DownW w wN wr T n c r db p L 0 (fun _ => false)) (fun i _ => l.length - (intOf i).toNat)
  case atStart => exact ⟨0, Nat.zero_le _, rfl, S0⟩
  case round =>
  clear S0
  obtain ⟨k, hk, rfl, S⟩ := hrel
  by_cases hlt : k < l.length
  case neg =>
    obtain rfl : k = l.length := by omega
    have dec : decide ((l.length : Int) < (l.length : Int)) = false := decide_eq_false (by omega)
    replace C := C
    go_wp2_with (go_at_call 5; (with_reducible refine (AC _).mono ?_); rintro e w3 ⟨rfl, b3⟩)
    go_ret
    exact ⟨rfl, S.bel.trans (b3.mono S.bel.size)⟩
  have dec : decide ((k : Int) < (l.length : Int)) = true := decide_eq_true (by omega)
  have dec' : decide (k < l.length) = true := decide_eq_true hlt
  obtain ⟨bO, off, rfl, hbs, e0⟩ := RV.at_ (hR.below S.bel) (k := k) (by rw [List.length_map]; exact hlt)
  rw [List.getElem_map] at e0
  have hzo := hz _ (List.getElem_mem hlt)
  generalize l[k] = o at *
  have e0' : wr.cell? ⟨bO, off + k, none⟩ = some (.string (bstr o)) := e0
  have szo : (bstr o).size = o.length := rfl
  clear e0 hbs
  by_cases h100 : 100 < o.length
  · have d100 : (100 : Int) < (o.length : Int) := by omega
    go_wp2_with (go_at_call 5; (with_reducible refine (AC _).mono ?_); rintro e w3 ⟨rfl, b3⟩)
    go_ret
    exact ⟨rfl, S.bel.trans (b3.mono S.bel.size)⟩
  have d100 : ¬ (100 : Int) < (o.length : Int) := by omega
  obtain ⟨x, x1, x2, x3, x4⟩ := nums_law (n := n) C.out.mem hcn.out C.out.c1 hn2.2 o g hg2
  have P1 : ∀ w', DownW w wN w' T n c r db p L 0 (fun _ => false) → Calls Tryz.prog 6 #[.pointer (some ⟨T, 0, none⟩), .int .i64 0, .string (bstr o)] w' fun e w'' => e = .returned (.tuple #[.int .i64 x, .bool true]) ∧ DownW w wN w'' T n c r db p L 0 (fun _ => false) := fun w' S' => by
    have := C.out.parent S' o (by omega)
    rw [x1] at this
    exact this
  have D1 := fun w' (S' : DownW w wN w' T n c r db p L 0 (fun _ => false)) => C.out.down S' (by omega) g hg2
  have U1 := fun w' (S' : DownW w wN w' T n c r db p L (0 + 1) (fun q => decide (q = (g : Int)))) => C.out.up g S' (by omega) hg2
  have O1 := fun w' (S' : DownW w wN w' T n c r db p L 0 (fun _ => false)) => C.out.order S'
  have P2 := fun w' (S' : DownW w wN w' T n c r db p L (0 + 1) (fun q => decide (q = (g : Int)))) => C.out.parent S' o (by omega)
  cases hy : firstUp (fun q => decide (q = (g : Int))) (numsOf L o (min n p)) with
  | none =>
    rw [hy] at x2 x3 x4 P2
    have hxg : x = (g : Int) := by
      rcases Classical.em (x = (g : Int)) with h | h
      · exact h
      · exact absurd (x2 h) (by simp)
    have hp1 : ¬ (1 : Int) < (p : Int) := fun h => by
      have := x4.2 (by have := hcn.out; omega)
      simp at this
    subst hxg
    have P2' : ∀ w', DownW w wN w' T n c r db p L (0 + 1) (fun q => decide (q = (g : Int))) → Calls Tryz.prog 6 #[.pointer (some ⟨T, 0, none⟩), .int .i64 0, .string (bstr o)] w' fun e w'' => e = .returned (.tuple #[.int .i64 0, .bool false]) ∧ DownW w wN w'' T n c r db p L (0 + 1) (fun q => decide (q = (g : Int))) := P2
    have dp : decide ((1 : Int) < (p : Int)) = false := decide_eq_false hp1
    clear x1 x2 x3 x4 P2 hy hR hz
    go_wp2_with (first
      | (have _q := S4; go_at_call 6; (with_reducible refine (P1 _ S4).mono ?_); rintro e w6 ⟨rfl, S5⟩)
      | (have _q := S2; go_at_call 6; (with_reducible refine (P2' _ S2).mono ?_); rintro e w4 ⟨rfl, S3⟩)
      | (go_at_call 6; (with_reducible refine (P1 _ S).mono ?_); rintro e w2 ⟨rfl, S1⟩)
      | (have _q := S3; go_at_call 7; (with_reducible refine (U1 _ S3).mono ?_); rintro e w5 ⟨rfl, S4⟩)
      | (go_at_call 7; (with_reducible refine (D1 _ S1).mono ?_); rintro e w3 ⟨rfl, S2⟩)
      | (go_at_call 8; (with_reducible refine (O1 _ S5).mono ?_); rintro e w7 ⟨⟨AO, cO, rfl⟩, S6⟩))
    refine ⟨⟨k + 1, by omega, by rw [show ((k : Int) + 1) = ((k + 1 : Nat) : Int) by omega], S6⟩, ?_⟩
    rw [show ((k : Int) + 1) = ((k + 1 : Nat) : Int) by omega]
    simp only [intOf, Int.toNat_natCast]
    omega
  | some y =>
    rw [hy] at x2 x3 x4 P2
    have hyg : y ≠ (g : Int) := fun h => x3 (by rw [h])
    have hp1 : (1 : Int) < (p : Int) := by
      have := x4.1 rfl
      have := hcn.out
      omega
    have P2' : ∀ w', DownW w wN w' T n c r db p L (0 + 1) (fun q => decide (q = (g : Int))) → Calls Tryz.prog 6 #[.pointer (some ⟨T, 0, none⟩), .int .i64 0, .string (bstr o)] w' fun e w'' => e = .returned (.tuple #[.int .i64 y, .bool true]) ∧ DownW w wN w'' T n c r db p L (0 + 1) (fun q => decide (q = (g : Int))) := P2
    have dp : decide ((1 : Int) < (p : Int)) = true := decide_eq_true hp1
    have dyg : (y == (g : Int)) = false := beq_eq_false_iff_ne.2 hyg
    by_cases hxg : x = (g : Int)
    · subst hxg
      clear x1 x2 x3 x4 P2 hy hR hz
      go_wp2_with (first
        | (have _q := S4; go_at_call 6; (with_reducible refine (P1 _ S4).mono ?_); rintro e w6 ⟨rfl, S5⟩)
        | (have _q := S2; go_at_call 6; (with_reducible refine (P2' _ S2).mono ?_); rintro e w4 ⟨rfl, S3⟩)
        | (go_at_call 6; (with_reducible refine (P1 _ S).mono ?_); rintro e w2 ⟨rfl, S1⟩)
        | (have _q := S3; go_at_call 7; (with_reducible refine (U1 _ S3).mono ?_); rintro e w5 ⟨rfl, S4⟩)
        | (go_at_call 7; (with_reducible refine (D1 _ S1).mono ?_); rintro e w3 ⟨rfl, S2⟩)
        | (go_at_call 8; (with_reducible refine (O1 _ S5).mono ?_); rintro e w7 ⟨⟨AO, cO, rfl⟩, S6⟩))
      refine ⟨⟨k + 1, by omega, by rw [show ((k : Int) + 1) = ((k + 1 : Nat) : Int) by omega], S6⟩, ?_⟩
      rw [show ((k : Int) + 1) = ((k + 1 : Nat) : Int) by omega]
      simp only [intOf, Int.toNat_natCast]
      omega
    · have hyx : y = x := Option.some.inj (x2 hxg)
      subst hyx
      clear x1 x2 x3 x4 P2 hy hR hz
      go_wp2_with (first
        | (have _q := S4; go_at_call 6; (with_reducible refine (P1 _ S4).mono ?_); rintro e w6 ⟨rfl, S5⟩)
        | (have _q := S2; go_at_call 6; (with_reducible refine (P2' _ S2).mono ?_); rintro e w4 ⟨rfl, S3⟩)
        | (go_at_call 6; (with_reducible refine (P1 _ S).mono ?_); rintro e w2 ⟨rfl, S1⟩)
        | (have _q := S3; go_at_call 7; (with_reducible refine (U1 _ S3).mono ?_); rintro e w5 ⟨rfl, S4⟩)
        | (go_at_call 7; (with_reducible refine (D1 _ S1).mono ?_); rintro e w3 ⟨rfl, S2⟩)
        | (go_at_call 8; (with_reducible refine (O1 _ S5).mono ?_); rintro e w7 ⟨⟨AO, cO, rfl⟩, S6⟩))
      refine ⟨⟨k + 1, by omega, by rw [show ((k : Int) + 1) = ((k + 1 : Nat) : Int) by omega], S6⟩, ?_⟩
      rw [show ((k : Int) + 1) = ((k + 1 : Nat) : Int) by omega]
      simp only [intOf, Int.toNat_natCast]
      omega
end Go.Proofs.YtnjcaepbelgpfaaGreatDoor
