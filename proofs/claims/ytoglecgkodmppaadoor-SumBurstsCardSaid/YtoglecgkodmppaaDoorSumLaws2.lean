/-
  The walks of the statements SumFar, SumFixes: each returns true and changes nothing that was there.
-/
import Derived.Test.YtoglecgkodmppaaDoorSumWalkD
import Derived.Test.YtoglecgkodmppaaDoorMem2
namespace Go.Proofs.YtoglecgkodmppaaDoor
open Go.RowKit SumP
attribute [local go_sem] U_not' U_xor U_div2 U_poly U_not

theorem el_u8 : El Tryd.prog 22 5 (.int .u8 0) 1 1 := ⟨info_parts info_u8, Tryd.underlying22, rfl, by decide⟩

theorem refof_at (l : List UInt8) (n : Nat) (A : Option Addr) (cap : Nat) (w : World) (hn : l.length = n) (hl : n ≤ 9223372036854775807) (hR : RB w A l) :
    Calls Tryd.prog 12 #[.slice A n cap] w fun e w' => e = .returned (.int .u32 (U (more 0#32 l))) ∧ w = w' := by
  subst hn; exact refof_calls l A cap w hl hR
theorem sumFixes_walk (l : List UInt8) (A : Option Addr) (cap : Nat) (want : BitVec 32) (w : World) (hT : Tab w) (hl : l.length ≤ 9223372036854775807) (hR : RB w A l) :
    Calls Tryd.prog 7 #[.slice A l.length cap, .int .u32 (U want)] w fun e w' => e = .returned (.bool true) ∧ Below w.heap.size w w' := by
  by_cases hb : 1000 < l.length
  · have d1 : decide (1000 < (l.length : Int)) = true := by simp; omega
    go_enter Tryd.func7, Tryd.ntmps7
    go_wp2_with fail
    refine (wakes_calls w hT).mono ?_
    rintro e w1 ⟨rfl, b1⟩
    go_wp2
    go_ret
    exact ⟨rfl, b1⟩
  · have d1 : decide (1000 < (l.length : Int)) = false := by simp; omega
    go_enter Tryd.func7, Tryd.ntmps7
    go_wp2_with fail
    refine (wakes_calls w hT).mono ?_
    rintro e w1 ⟨rfl, b1⟩
    have hT1 := hT.below b1 hT.lt
    have hR1 := hR.below b1
    go_wp2_with fail
    refine (of_calls l A cap w1 hT1 hl hR1).mono ?_
    rintro e w' ⟨rfl, rfl⟩
    go_wp2_with fail
    refine (fix_calls _ _ _).mono ?_
    rintro e w2 ⟨A2, c2, rfl, hR2, b2⟩
    have hl4 : (leb32 (fixv (more 0#32 l) want)).length = 4 := rfl
    rw [hl4]
    clear hl4
    have HF := Lib.hid (fix_works l want)
    have HL : Hid ((leb32 (fixv (more 0#32 l) want)).length = 4) := rfl
    generalize leb32 (fixv (more 0#32 l) want) = fx at *
    have hR1' := hR1.below b2
    have b12 := b1.trans (b2.mono b1.size)
    clear b1 b2 hR1 hT1
    have hml : l.length ≤ 1000 := by omega
    have own1 := own_empty w2 (base := w2.heap.size) 5 1 (Nat.le_refl _)
    go_wp2_with (at_builtin; refine wpList_append_rv el_u8 rfl (.tmp 19) (.tmp 20) rfl w2.heap.size _ 0 [] rfl own1 A l.length cap (cB l) rfl ?e1 (hR1'.alloc _) (cB_one _) ?e2 ?e3 ?e4 ?_)
    case e1 => rw [cB_len, Nat.mul_one]
    case e2 => unfold maxLen; omega
    case e3 => omega
    case e4 => simp
    intro v3 w3 own3 gr3 _
    have b3 : Below w2.heap.size w2 w3 := ((Below.refl _ _).alloc (Nat.le_refl _) _).grown gr3 (by simp) (fun k hk => (own1.lt k hk).1)
    have hR3 := hR2.below b3
    clear own1 gr3 hR1' hR2
    go_wp2_with (at_builtin; refine wpList_append_rv el_u8 rfl (.tmp 21) (.tmp 22) rfl w2.heap.size v3 l.length (cB l) rfl own3 A2 4 c2 (cB fx) rfl ?f1 hR3 (cB_one _) ?f2 ?f3 ?f4 ?_)
    case f1 => rw [cB_len, HL.out]
    case f2 => unfold maxLen; omega
    case f3 => omega
    case f4 => exact b3.size
    intro v4 w4 own4 gr4 _
    rw [← cB_append] at own4
    have b4 : Below w2.heap.size w2 w4 := b3.grown gr4 b3.size (fun k hk => (own3.lt k hk).1)
    obtain ⟨A4, c4, rfl, _, _⟩ := own_form own4
    have hR4 : RB w4 A4 (l ++ fx) := RV.of_own own4
    have b24 := b12.trans (b4.mono b12.size)
    clear own3 gr4 hR3 own4 b3 b4
    go_wp2_with fail
    refine (refof_at (l ++ fx) (l.length + 4) A4 c4 w4 (by rw [List.length_append, HL.out]) (by omega) hR4).mono ?_
    rintro e w' ⟨rfl, rfl⟩
    rw [HF.out]
    go_wp2
    go_ret
    exact ⟨rfl, b24⟩

theorem join_int (a b : BitVec 32) (n : Int) (k : Nat) (w : World) (hT : Tab w) (hk : n = (k : Int)) (hn : k ≤ 1099511627776) :
    Calls Tryd.prog 15 #[.int .u32 (U a), .int .u32 (U b), .int .i64 n] w fun e w' => e = .returned (.tuple #[.int .u32 (U (far k a ^^^ b)), .int .i64 0]) ∧ Below w.heap.size w w' := by
  subst hk; exact join_calls a b k w hT hn
theorem far_three (a b c : BitVec 32) (p q : Nat) : far q (far p a ^^^ b) ^^^ c = far (p + q) a ^^^ (far q b ^^^ c) := by
  rw [far_xor, ← far_add, BitVec.xor_assoc]

theorem sumFar_walk (s0 s1 s2 : BitVec 32) (m n : Nat) (w : World) (hT : Tab w) (hm : m < 18446744073709551616) (hn : n < 18446744073709551616) :
    Calls Tryd.prog 6 #[.agg #[.int .u32 (U s0), .int .u32 (U s1), .int .u32 (U s2)], .int .u64 (m : Int), .int .u64 (n : Int)] w fun e w' => e = .returned (.bool true) ∧ Below w.heap.size w w' := by
  obtain ⟨p, hp, hp'⟩ : ∃ p : Nat, (m : Int) % 549755813888 = (p : Int) ∧ p < 549755813888 := ⟨m % 549755813888, by omega, by omega⟩
  obtain ⟨q, hq, hq'⟩ : ∃ q : Nat, (n : Int) % 549755813888 = (q : Int) ∧ q < 549755813888 := ⟨n % 549755813888, by omega, by omega⟩
  have hbeq : (U (far q (far p s0 ^^^ s1) ^^^ s2) == U (far (p + q) s0 ^^^ (far q s1 ^^^ s2))) = true := by rw [far_three]; simp
  have HB := Lib.hid hbeq
  clear hbeq
  go_enter Tryd.func6, Tryd.ntmps6
  go_wp2_with fail
  have b0 : Below w.heap.size w (w.alloc (Obj.cells #[Value.int IntKind.u32 (U s0), Value.int IntKind.u32 (U s1), Value.int IntKind.u32 (U s2)] 34)) := (Below.refl _ _).alloc (Nat.le_refl _) _
  have hB := Blk.new w 34 #[Value.int IntKind.u32 (U s0), Value.int IntKind.u32 (U s1), Value.int IntKind.u32 (U s2)]
  have hT0 := hT.below b0 hT.lt
  generalize w.alloc (Obj.cells #[Value.int IntKind.u32 (U s0), Value.int IntKind.u32 (U s1), Value.int IntKind.u32 (U s2)] 34) = w0 at *
  refine (wakes_calls w0 hT0).mono ?_
  rintro e w1 ⟨rfl, b1⟩
  have hB1 := hB.below b1 hB.lt
  have hT1 := hT0.below b1 hT0.lt
  have b1' := b0.trans (b1.mono b0.size)
  clear b0 b1 hB hT0
  have c0 := hB1.at_ (i := 0) rfl
  have c1 := hB1.at_ (i := 1) rfl
  go_wp2_with fail
  refine (join_int s0 s1 _ p w1 hT1 rfl (by omega)).mono ?_
  rintro e w2 ⟨rfl, b2⟩
  have hB2 := hB1.below b2 hB1.lt
  have hT2 := hT1.below b2 hT1.lt
  have b2' := b1'.trans (b2.mono b1'.size)
  clear b1' b2 hB1 hT1 c0 c1
  have c2 := hB2.at_ (i := 2) rfl
  go_wp2_with fail
  refine (join_int _ s2 _ q w2 hT2 rfl (by omega)).mono ?_
  rintro e w3 ⟨rfl, b3⟩
  have hB3 := hB2.below b3 hB2.lt
  have hT3 := hT2.below b3 hT2.lt
  have b3' := b2'.trans (b3.mono b2'.size)
  clear b2' b3 hB2 hT2 c2
  have c1 := hB3.at_ (i := 1) rfl
  have c2 := hB3.at_ (i := 2) rfl
  go_wp2_with fail
  refine (join_int s1 s2 _ q w3 hT3 rfl (by omega)).mono ?_
  rintro e w4 ⟨rfl, b4⟩
  have hB4 := hB3.below b4 hB3.lt
  have hT4 := hT3.below b4 hT3.lt
  have b4' := b3'.trans (b4.mono b3'.size)
  clear b3' b4 hB3 hT3 c1 c2
  have c0 := hB4.at_ (i := 0) rfl
  go_wp2_with fail
  refine (join_int s0 _ _ (p + q) w4 hT4 (by omega) (by omega)).mono ?_
  rintro e w5 ⟨rfl, b5⟩
  have hB5 := hB4.below b5 hB4.lt
  have hT5 := hT4.below b5 hT4.lt
  have b5' := b4'.trans (b5.mono b4'.size)
  clear b4' b5 hB4 hT4 c0
  have c0 := hB5.at_ (i := 0) rfl
  go_wp2_with fail
  refine (join_int s0 0#32 _ 0 w5 hT5 rfl (by omega)).mono ?_
  rintro e w6 ⟨rfl, b6⟩
  have hB6 := hB5.below b6 hB5.lt
  have b6' := b5'.trans (b6.mono b5'.size)
  rw [far_zero, BitVec.xor_zero]
  clear b5' b6 hB5 hT5 c0
  have c0 := hB6.at_ (i := 0) rfl
  have hbeq := HB.out
  go_wp2
  go_ret
  exact ⟨rfl, b6'⟩
end Go.Proofs.YtoglecgkodmppaaDoor
