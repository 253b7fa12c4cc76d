/-
  The walk of the document's Right.
-/
import Derived.Test.YtdcjljlppeighaaDoorPurgeWalkC
import Derived.BigQuiet
import Derived.Deep.QuietTactic
namespace Go.Proofs.YtdcjljlppeighaaDoor
open Go.RowKit PurgeP

theorem most_calls (w : World) : Calls Tryd.prog 55 #[] w fun e w' => e = .returned (.int .i64 1099511627776) ∧ w' = w := by
  go_enter Tryd.func55, Tryd.ntmps55
  go_wp2
  go_ret
  exact ⟨rfl, rfl⟩
theorem add_zero_off_any (b off : Nat) : (⟨b, off, none⟩ : Addr).add 0 = ⟨b, off, none⟩ := by unfold Addr.add; split <;> simp_all
theorem slice_head (w : World) (b off n cap k : Nat) (hk : k ≤ cap) : (Instr.slice 31 (.slice (some ⟨b, off, none⟩) n cap) none (some (.int .i64 (k : Int))) none).run Tryd.prog w = .ok (.slice (some ⟨b, off, none⟩) k cap) w := by
  have hu := Tryd.underlying31
  have he : Tryd.prog.elem 31 = 9 := by kernel_rfl
  have := run_slice_h (P := Tryd.prog) (w := w) 31 (some ⟨b, off, none⟩) n cap (by rw [he]; exact hu) .i64 (k : Int) (by omega) (by omega)
  rw [this]
  simp [he, sliced]
  exact fun _ => add_zero_off_any b off
theorem RS.drewN {w : World} {A : Option Addr} {ks : List Txt} (h : RS w A ks) (n : Nat) : RS (w.drewN n) A ks := RV.drewN h n
theorem drewN_below (w : World) (q : Nat) : Below w.heap.size w (w.drewN q) := ⟨rfl, rfl, rfl, Nat.le_refl _, fun _ _ => rfl⟩
set_option maxHeartbeats 1600000 in
theorem rright_calls (no : Int) (ks : List Txt) (hd : Bool) (A : Option Addr) (cap : Nat) (w : World) (hR : RS w A ks) (hcap : ks.length ≤ cap) (_hc63 : cap ≤ 9223372036854775807) :
    Calls Tryd.prog 33 #[.agg #[.int .i64 no, .slice A ks.length cap, .bool hd]] w fun e w' => e = .returned (.bool (rightB ⟨no, ks, hd⟩)) ∧ Below w.heap.size w w' := by
  have cb := Blk.new w 51 #[.int .i64 no, .slice A ks.length cap, .bool hd]
  have B1 : Below w.heap.size w (w.alloc (.cells #[.int .i64 no, .slice A ks.length cap, .bool hd] 51)) := (Below.refl _ _).alloc (Nat.le_refl _) _
  have hR1 := hR.below B1
  have hw := num_ways no ks.length
  have MC : ∀ w : World, Calls Tryd.prog 55 #[] w fun e w' => e = .returned (.int .i64 1099511627776) ∧ w' = w := most_calls
  have HSZ : Hid ((w.alloc (.cells #[.int .i64 no, .slice A ks.length cap, .bool hd] 51)).heap.size = w.heap.size + 1) := by show _ = _; simp
  rcases hw with hn | hn
  · have d1 : decide (no < 1) = false := decide_eq_false (by omega)
    have d2 : decide (1099511627776 < no) = false := decide_eq_false (by omega)
    have d3 : decide ((ks.length : Int) < 1) = false := decide_eq_false (by omega)
    have d4 : decide (34 < (ks.length : Int)) = false := decide_eq_false (by omega)
    have HY := Lib.hid (fun hg => right_yes (hd := hd) hn hg)
    have hl : ks.length ≤ 9223372036854775807 := by omega
    go_enter Tryd.func33, Tryd.ntmps33
    go_wp2_with fail
    go_quiet (first | (go_at_call 55; (with_reducible refine Calls.quiet_of_same (MC _))))
    go_wp2
    generalize w.alloc (.cells #[.int .i64 no, .slice A ks.length cap, .bool hd] 51) = w1 at *
    have B2 : Below w1.heap.size w1 (w1.drewN nq) := drewN_below w1 nq
    generalize w1.drewN nq = w2 at *
    clear hn d1 d2 d3 d4 hR MC
    go_loopw [3] (fun i wr => ∃ k : Nat, k ≤ ks.length ∧ i = .int .i64 k ∧ goodK ks k = true ∧ Below w1.heap.size w1 wr) (fun i _ => ks.length - (intOf i).toNat)
    case atStart => exact ⟨0, by omega, rfl, goodK_zero ks, B2⟩
    case round =>
      obtain ⟨k, hk, rfl, hp, bel⟩ := hrel
      have g1 : wr.cell? ⟨w.heap.size, 1, none⟩ = some (.slice A ks.length cap) := (cb.below bel (by rw [HSZ.out]; omega)).at_ rfl
      have hRr := hR1.below bel
      have BF : Below w.heap.size w wr := B1.trans (bel.mono B1.size)
      by_cases hlt : k < ks.length
      · have hdec : decide ((k : Int) < (ks.length : Int)) = true := decide_eq_true (by omega)
        have hdec' : decide (k < ks.length) = true := decide_eq_true hlt
        obtain ⟨b, off, rfl, hb, hc⟩ := hRr.at_ hlt
        have HT := Lib.hid (goodK_succ ks k)
        have HP := Lib.hid hp
        have hlen : (ks.take k).length = k := by rw [List.length_take]; omega
        have CC := fun w' (h' : RS w' (some ⟨b, off, none⟩) ks) => (rhas_calls (ks.take k) k hlen (ks.getD k []) (some ⟨b, off, none⟩) cap w' (h'.take k) (by omega)).mono fun _ _ ⟨a, c⟩ => (⟨a, c.symm⟩ : _ ∧ _)
        have KC := fun w' => (rkey_calls (ks.getD k []) w').mono fun _ _ ⟨a, c⟩ => (⟨a, c.symm⟩ : _ ∧ _)
        have HB := Lib.hid (fun h => right_bad (no := no) (hd := hd) (k := k + 1) hlt h)
        have SLK := fun w' => slice_head w' b off ks.length cap k (by omega)
        clear hp hlen
        generalize ks.getD k [] = c at *
        cases hq : keyB c
        · rw [hq] at KC
          have HF : Hid (rightB ⟨no, ks, hd⟩ = false) := HB.out (by rw [HT.out, hq]; simp)
          clear hq HB HY HT CC
          go_wp2_with fail
          go_quiet (first | (go_at_call 56; (with_reducible refine Calls.quiet_of_same (KC _))))
          go_wp2
          go_ret
          exact ⟨by rw [HF.out]; rfl, ⟨BF.os, BF.tape, BF.output, BF.size, BF.block⟩⟩
        · rw [hq] at KC
          cases hq2 : hasB (ks.take k) c
          · rw [hq2] at CC
            have HR : Hid (goodK ks (k + 1) = true) := by show _ = _; rw [HT.out, HP.out, hq, hq2]; rfl
            have HBL : Hid (∀ q, Below w1.heap.size w1 (wr.drewN q)) := fun q => ⟨bel.os, bel.tape, bel.output, bel.size, bel.block⟩
            clear hq hq2 HB HY HT
            go_wp2_with fail
            go_quiet (first | (go_at_call 56; (with_reducible refine Calls.quiet_of_same (KC _))) | (go_at_call 57; (with_reducible refine Calls.quiet_of_same (CC _ (hRr.drewN _)))))
            go_wp2
            go_roundw
            case rel => exact ⟨k + 1, by omega, by go_num, HR.out, HBL.out _⟩
            case measure => simp [intOf]; omega
          · rw [hq2] at CC
            have HF : Hid (rightB ⟨no, ks, hd⟩ = false) := HB.out (by rw [HT.out, hq, hq2]; simp)
            clear hq hq2 HB HY HT
            go_wp2_with fail
            go_quiet (first | (go_at_call 56; (with_reducible refine Calls.quiet_of_same (KC _))) | (go_at_call 57; (with_reducible refine Calls.quiet_of_same (CC _ (hRr.drewN _)))))
            go_wp2
            go_ret
            exact ⟨by rw [HF.out]; rfl, ⟨BF.os, BF.tape, BF.output, BF.size, BF.block⟩⟩
      · obtain rfl : k = ks.length := by omega
        have HF : Hid (rightB ⟨no, ks, hd⟩ = true) := HY.out hp
        clear hp HY
        go_wp2
        go_ret
        exact ⟨by rw [HF.out]; rfl, BF⟩
  · have HF : Hid (rightB ⟨no, ks, hd⟩ = false) := right_no (by simp only [decide_eq_true_eq, decide_eq_false_iff_not] at hn; omega)
    clear hR1 hR
    rcases hn with d1 | ⟨d1, d2⟩ | ⟨d1, d2, d3⟩ | ⟨d1, d2, d3, d4⟩
    all_goals
      go_enter Tryd.func33, Tryd.ntmps33
      go_wp2_with fail
      go_quiet (first | (go_at_call 55; (with_reducible refine Calls.quiet_of_same (MC _))))
      go_wp2
      go_ret
      exact ⟨by rw [HF.out]; rfl, ⟨B1.os, B1.tape, B1.output, B1.size, B1.block⟩⟩
end Go.Proofs.YtdcjljlppeighaaDoor
