/-
  Walks: may a line be; a line copied.
-/
import Derived.Test.YtdcjljlppeighaaDoorPurgeWalkB
import Derived.BigQuiet
import Derived.Deep.QuietTactic
namespace Go.Proofs.YtdcjljlppeighaaDoor
open Go.RowKit PurgeP

theorem num_ways (no : Int) (n : Nat) : (1 ≤ no ∧ no ≤ 1099511627776 ∧ 1 ≤ n ∧ n ≤ 34) ∨ decide (no < 1) = true ∨ (decide (no < 1) = false ∧ decide (1099511627776 < no) = true) ∨
    (decide (no < 1) = false ∧ decide (1099511627776 < no) = false ∧ decide ((n : Int) < 1) = true) ∨ (decide (no < 1) = false ∧ decide (1099511627776 < no) = false ∧ decide ((n : Int) < 1) = false ∧ decide (34 < (n : Int)) = true) := by
  simp only [decide_eq_true_eq, decide_eq_false_iff_not]
  omega
theorem right_no {no : Int} {ks : List Txt} {hd : Bool} (h : ¬ (1 ≤ no ∧ no ≤ 1099511627776 ∧ 1 ≤ ks.length ∧ ks.length ≤ 34)) : rightB ⟨no, ks, hd⟩ = false := by
  cases e : rightB ⟨no, ks, hd⟩
  · rfl
  · exact absurd ((right_iff _).1 e).1 h
theorem right_bad {no : Int} {ks : List Txt} {hd : Bool} {k : Nat} (hk : k ≤ ks.length) (h : goodK ks k = false) : rightB ⟨no, ks, hd⟩ = false := by
  unfold rightB
  rw [show goodK ks ks.length = false from goodK_not ks k _ h hk, Bool.and_false]
theorem right_yes {no : Int} {ks : List Txt} {hd : Bool} (h : 1 ≤ no ∧ no ≤ 1099511627776 ∧ 1 ≤ ks.length ∧ ks.length ≤ 34) (hg : goodK ks ks.length = true) : rightB ⟨no, ks, hd⟩ = true := (right_iff _).2 ⟨h, hg⟩
set_option maxHeartbeats 1600000 in
theorem right_calls (no : Int) (ks : List Txt) (hd : Bool) (A : Option Addr) (cap : Nat) (w : World) (hR : RS w A ks) (hcap : ks.length ≤ cap) (_hc63 : cap ≤ 9223372036854775807) :
    Calls Tryd.prog 48 #[.agg #[.int .i64 no, .slice A ks.length cap, .bool hd]] w fun e w' => e = .returned (.bool (rightB ⟨no, ks, hd⟩)) ∧ Below w.heap.size w w' := by
  have cb := Blk.new w 54 #[.int .i64 no, .slice A ks.length cap, .bool hd]
  have B1 : Below w.heap.size w (w.alloc (.cells #[.int .i64 no, .slice A ks.length cap, .bool hd] 54)) := (Below.refl _ _).alloc (Nat.le_refl _) _
  have hR1 := hR.below B1
  have hw := num_ways no ks.length
  rcases hw with hn | hn
  · have d1 : decide (no < 1) = false := decide_eq_false (by omega)
    have d2 : decide (1099511627776 < no) = false := decide_eq_false (by omega)
    have d3 : decide ((ks.length : Int) < 1) = false := decide_eq_false (by omega)
    have d4 : decide (34 < (ks.length : Int)) = false := decide_eq_false (by omega)
    have HY := Lib.hid (fun hg => right_yes (hd := hd) hn hg)
    have hl : ks.length ≤ 9223372036854775807 := by omega
    go_enter Tryd.func48, Tryd.ntmps48
    go_wp2
    generalize w.alloc (.cells #[.int .i64 no, .slice A ks.length cap, .bool hd] 54) = w1 at *
    have g1 : w1.cell? ⟨w.heap.size, 1, none⟩ = some (.slice A ks.length cap) := cb.at_ rfl
    clear cb hn d1 d2 d3 d4 hR
    go_loop [28] (fun i => ∃ k : Nat, k ≤ ks.length ∧ i = .int .i64 k ∧ goodK ks k = true) (fun i => ks.length - (intOf i).toNat)
    case atStart => exact ⟨0, by omega, rfl, goodK_zero ks⟩
    case round =>
      obtain ⟨k, hk, rfl, hp⟩ := hrel
      by_cases hlt : k < ks.length
      · have hdec : decide ((k : Int) < (ks.length : Int)) = true := decide_eq_true (by omega)
        have hdec' : decide (k < ks.length) = true := decide_eq_true hlt
        obtain ⟨b, off, rfl, hb, hc⟩ := hR1.at_ hlt
        have HT := Lib.hid (goodK_succ ks k)
        have HP := Lib.hid hp
        have hlen : (ks.take k).length = k := by rw [List.length_take]; omega
        have CC := contains_calls (ks.take k) k hlen (ks.getD k []) (some ⟨b, off, none⟩) cap w1 (hR1.take k) (by omega)
        have KC := key_calls (ks.getD k []) w1
        have HB := Lib.hid (fun h => right_bad (no := no) (hd := hd) (k := k + 1) hlt h)
        clear hp hlen
        generalize ks.getD k [] = c at *
        cases hq : keyB c
        · rw [hq] at KC
          have HF : Hid (rightB ⟨no, ks, hd⟩ = false) := HB.out (by rw [HT.out, hq]; simp)
          clear hq HB HY HT
          go_wp2_with fail
          refine KC.mono ?_
          clear KC CC
          rintro e w2 ⟨rfl, rfl⟩
          go_wp2
          go_ret
          exact ⟨by rw [HF.out]; rfl, B1⟩
        · rw [hq] at KC
          cases hq2 : hasB (ks.take k) c
          · rw [hq2] at CC
            have HR : Hid (goodK ks (k + 1) = true) := by show _ = _; rw [HT.out, HP.out, hq, hq2]; rfl
            clear hq hq2 HB HY HT
            go_wp2_with fail
            refine KC.mono ?_
            clear KC
            rintro e w2 ⟨rfl, rfl⟩
            go_wp2_with fail
            refine CC.mono ?_
            clear CC
            rintro e w2 ⟨rfl, rfl⟩
            go_wp2
            go_round
            case rel => exact ⟨k + 1, by omega, by go_num, HR.out⟩
            case measure => simp [intOf]; omega
          · rw [hq2] at CC
            have HF : Hid (rightB ⟨no, ks, hd⟩ = false) := HB.out (by rw [HT.out, hq, hq2]; simp)
            clear hq hq2 HB HY HT
            go_wp2_with fail
            refine KC.mono ?_
            clear KC
            rintro e w2 ⟨rfl, rfl⟩
            go_wp2_with fail
            refine CC.mono ?_
            clear CC
            rintro e w2 ⟨rfl, rfl⟩
            go_wp2
            go_ret
            exact ⟨by rw [HF.out]; rfl, B1⟩
      · obtain rfl : k = ks.length := by omega
        have HF : Hid (rightB ⟨no, ks, hd⟩ = true) := HY.out hp
        clear hp HY
        go_wp2
        go_ret
        exact ⟨by rw [HF.out]; rfl, B1⟩
  · have HF : Hid (rightB ⟨no, ks, hd⟩ = false) := right_no (by simp only [decide_eq_true_eq, decide_eq_false_iff_not] at hn; omega)
    clear hR1 hR
    rcases hn with d1 | ⟨d1, d2⟩ | ⟨d1, d2, d3⟩ | ⟨d1, d2, d3, d4⟩
    all_goals
      go_enter Tryd.func48, Tryd.ntmps48
      go_wp2
      go_ret
      exact ⟨by rw [HF.out]; rfl, B1⟩
end Go.Proofs.YtdcjljlppeighaaDoor
