/-
  The walks of the document's Mark and of the statements' example ('wakes').
-/
import Derived.Test.YtoglecgkodmppaaDoorSumWalkC
import Derived.Lib.SlBytesConst
namespace Go.Proofs.YtoglecgkodmppaaDoor
open Go.RowKit SumP
attribute [local go_sem] U_not' U_xor U_div2 U_poly U_not

theorem refmark_calls (l : List UInt8) (A : Option Addr) (cap : Nat) (ws : List Int) (Aw : Option Addr) (capw : Nat) (w : World) (hl : l.length ≤ 9223372036854775807) (hR : RB w A l)
    (hlw : ws.length ≤ 9223372036854775807) (hw : RI w Aw ws) (hwf : ∀ n ∈ ws, -9223372036854775808 ≤ n ∧ n ≤ 9223372036854775807) :
    Calls Tryd.prog 19 #[.slice A l.length cap, .slice Aw ws.length capw] w fun e w' => e = .returned (.int .u32 (U (markS (more 0#32 l) ws))) ∧ Below w.heap.size w w' := by
  go_enter Tryd.func19, Tryd.ntmps19
  go_wp2_with (go_at_call 12; refine (refof_calls l A cap _ hl hR).mono ?_; rintro e w' ⟨rfl, rfl⟩)
  generalize hs0 : more 0#32 l = s0
  have HS0 := Lib.hid hs0
  clear hs0
  go_loopw [5, 6] (fun x i wr => ∃ k : Nat, k ≤ ws.length ∧ i = .int .i64 k ∧ x = .int .u32 (U (markS s0 (ws.take k))) ∧ Below w.heap.size w wr) (fun _ i _ => ws.length - (intOf i).toNat)
  case atStart => exact ⟨0, by omega, rfl, rfl, Below.refl _ _⟩
  case round =>
    obtain ⟨k, hk, rfl, rfl, hbel⟩ := hrel
    by_cases hlt : k < ws.length
    · obtain ⟨b, off, rfl, hb, hcell⟩ := (hw.below hbel).at_ hlt
      have hbd := hwf ws[k] (List.getElem_mem hlt)
      have HS : Hid (markS s0 (ws.take (k + 1)) = more (markS s0 (ws.take k)) (leb64 (ws[k] % 18446744073709551616).toNat)) := by
        show _ = _
        rw [List.take_succ_eq_append_getElem hlt]; unfold markS; rw [List.foldl_append]; rfl
      generalize markS s0 (ws.take k) = x at *
      generalize ws[k] = n at *
      obtain ⟨lo, hi⟩ := hbd
      go_wp2_with fail
      refine (refbytes_calls n _ lo hi).mono ?_
      rintro e w1 ⟨A1, c1, rfl, hR1, hbel1⟩
      go_wp2_with fail
      refine (refmore_at x _ 8 _ _ _ rfl (by omega) hR1).mono ?_
      rintro e w' ⟨rfl, rfl⟩
      rw [← HS.out]
      go_wp2
      go_roundw
      case rel => exact ⟨k + 1, by omega, by go_num, rfl, hbel.trans (hbel1.mono hbel.size)⟩
      case measure => simp [intOf]; omega
    · obtain rfl : k = ws.length := by omega
      rw [List.take_length]
      go_wp2
      go_ret
      exact ⟨by rw [HS0.out]; rfl, hbel⟩

theorem wakes_calls (w : World) (hT : Tab w) :
    Calls Tryd.prog 10 #[] w fun e w' => e = .returned (.bool true) ∧ Below w.heap.size w w' := by
  have kc := fun (w : World) (C : Array Value) (n c : Nat) => Lib.run_convert_bytes_const (P := Tryd.prog) w 22 5 C n c Tryd.underlying22 Tryd.underlying5
  go_enter Tryd.func10, Tryd.ntmps10
  have b1 : Below w.heap.size w (w.alloc (.cells (cB [49, 50, 51, 52, 53]).toArray 5 (5, 6))) := (Below.refl _ _).alloc (Nat.le_refl _) _
  have r1 := RV.new w (cB [49, 50, 51, 52, 53]) 5 (5, 6)
  go_wp2_with fail
  refine (of_at [49, 50, 51, 52, 53] 5 _ _ _ (hT.below b1 hT.lt) rfl (by omega) r1).mono ?_
  rintro e w' ⟨rfl, rfl⟩
  have hT1 := hT.below b1 hT.lt
  generalize w.alloc (.cells (cB [49, 50, 51, 52, 53]).toArray 5 (5, 6)) = w1 at *
  go_wp2_with fail
  have b2 : Below w1.heap.size w1 (w1.alloc (.cells (cB [54, 55, 56, 57]).toArray 5 (4, 5))) := (Below.refl _ _).alloc (Nat.le_refl _) _
  refine (of_at [54, 55, 56, 57] 4 _ _ _ (hT1.below b2 hT1.lt) rfl (by omega) (RV.new w1 (cB [54, 55, 56, 57]) 5 (4, 5))).mono ?_
  rintro e w' ⟨rfl, rfl⟩
  have hT2 := hT1.below b2 hT1.lt
  have b2' := b1.trans (b2.mono b1.size)
  generalize w1.alloc (.cells (cB [54, 55, 56, 57]).toArray 5 (4, 5)) = w2 at *
  clear b1 b2 hT1
  go_wp2_with fail
  refine (join_calls _ _ 4 _ hT2 (by omega)).mono ?_
  rintro e w3 ⟨rfl, b3⟩
  have e1 : U (far 4 (more 0#32 [49, 50, 51, 52, 53]) ^^^ more 0#32 [54, 55, 56, 57]) = 3421780262 := by decide +kernel
  rw [e1]
  have hT3 := hT2.below b3 hT2.lt
  have b3' := b2'.trans (b3.mono b2'.size)
  clear b2' b3 hT2 e1
  go_wp2_with fail
  have b4 : Below w3.heap.size w3 (w3.alloc (.cells (cB [97]).toArray 5 (1, 2))) := (Below.refl _ _).alloc (Nat.le_refl _) _
  refine (of_at [97] 1 _ _ _ (hT3.below b4 hT3.lt) rfl (by omega) (RV.new w3 (cB [97]) 5 (1, 2))).mono ?_
  rintro e w' ⟨rfl, rfl⟩
  have e1 : U (more 0#32 [97]) = 3904355907 := by decide +kernel
  rw [e1]
  have hT4 := hT3.below b4 hT3.lt
  have b4' := b3'.trans (b4.mono b3'.size)
  generalize w3.alloc (.cells (cB [97]).toArray 5 (1, 2)) = w4 at *
  clear b3' b4 hT3 e1
  go_wp2_with fail
  have b5 : Below w4.heap.size w4 (w4.alloc (.cells (cB [49, 50, 51, 52, 53, 54, 55, 56, 57]).toArray 5 (9, 10))) := (Below.refl _ _).alloc (Nat.le_refl _) _
  refine (of_at [49, 50, 51, 52, 53, 54, 55, 56, 57] 9 _ _ _ (hT4.below b5 hT4.lt) rfl (by omega) (RV.new w4 (cB [49, 50, 51, 52, 53, 54, 55, 56, 57]) 5 (9, 10))).mono ?_
  rintro e w' ⟨rfl, rfl⟩
  have e1 : U (more 0#32 [49, 50, 51, 52, 53, 54, 55, 56, 57]) = 3421780262 := by decide +kernel
  rw [e1]
  have b5' := b4'.trans (b5.mono b4'.size)
  generalize w4.alloc (.cells (cB [49, 50, 51, 52, 53, 54, 55, 56, 57]).toArray 5 (9, 10)) = w5 at *
  clear b4' b5 hT4 e1
  go_wp2_with fail
  refine (fix_calls 1#32 2#32 _).mono ?_
  rintro e w6 ⟨A6, c6, rfl, _, b6⟩
  go_wp2
  go_ret
  exact ⟨rfl, b5'.trans (b6.mono b5'.size)⟩
end Go.Proofs.YtoglecgkodmppaaDoor
