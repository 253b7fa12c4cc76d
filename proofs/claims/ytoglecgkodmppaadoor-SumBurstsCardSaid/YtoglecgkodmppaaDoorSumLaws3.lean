/-
  The walk of the statement SumParts: it returns true and changes nothing that was there.
-/
import Derived.Test.YtoglecgkodmppaaDoorSumLaws2
import Derived.Test.YtoglecgkodmppaaDoorGrow
namespace Go.Proofs.YtoglecgkodmppaaDoor
open Go.RowKit SumP
attribute [local go_sem] U_not' U_xor U_div2 U_poly U_not

/-- A slice cut at k: what is ahead, and the rest. -/
theorem RV.take {w : World} {A : Option Addr} {vs : List Value} (h : RV w A vs) (k : Nat) : RV w A (vs.take k) := by
  intro hne
  obtain ⟨b, off, e, hb, hc⟩ := h (by rintro rfl; simp at hne)
  refine ⟨b, off, e, hb, fun j v hj => hc j v ?_⟩
  rw [List.getElem?_take] at hj
  split at hj
  · exact hj
  · cases hj
theorem RB.take {w : World} {A : Option Addr} {l : List UInt8} (h : RB w A l) (k : Nat) : RB w A (l.take k) := by
  have := RV.take h k
  rw [show (cB l).take k = cB (l.take k) by simp [cB]] at this
  exact this

theorem RV.drop {w : World} {A : Option Addr} {vs : List Value} (h : RV w A vs) (k cap : Nat) (hc : vs.length ≤ cap) : RV w (if cap = k then A else A.map (·.add k)) (vs.drop k) := by
  intro hne
  have hk : k < vs.length := by
    rcases Nat.lt_or_ge k vs.length with h | h
    · exact h
    · exact absurd (List.drop_eq_nil_of_le h) hne
  rw [if_neg (by omega)]
  obtain ⟨b, off, rfl, hb, hc⟩ := h (by rintro rfl; simp at hk)
  have hadd : (⟨b, off, none⟩ : Addr).add k = ⟨b, off + k, none⟩ := by unfold Addr.add; split <;> simp_all
  refine ⟨b, off + k, by simp [hadd], hb, fun j v hj => ?_⟩
  rw [List.getElem?_drop] at hj
  rw [Nat.add_assoc]
  exact hc _ v hj
theorem RB.drop {w : World} {A : Option Addr} {l : List UInt8} (h : RB w A l) (k cap : Nat) (hc : l.length ≤ cap) : RB w (if cap = k then A else A.map (·.add k)) (l.drop k) := by
  have := RV.drop h k cap (by rwa [cB_len])
  rw [show (cB l).drop k = cB (l.drop k) by simp [cB]] at this
  exact this

theorem sumParts_walk (l : List UInt8) (A : Option Addr) (cap : Nat) (k : Nat) (w : World) (hT : Tab w) (hl : l.length ≤ 9223372036854775807) (hcap : l.length ≤ cap) (hR : RB w A l) (hk : k < 65536) :
    Calls Tryd.prog 4 #[.slice A l.length cap, .int .u16 (k : Int)] w fun e w' => e = .returned (.bool true) ∧ Below w.heap.size w w' := by
  by_cases hb : 2000 < l.length
  · have d1 : decide (2000 < (l.length : Int)) = true := by simp; omega
    go_enter Tryd.func4, Tryd.ntmps4
    go_wp2_with fail
    refine (wakes_calls w hT).mono ?_
    rintro e w1 ⟨rfl, b1⟩
    go_wp2
    go_ret
    exact ⟨rfl, b1⟩
  · have d1 : decide (2000 < (l.length : Int)) = false := by simp; omega
    obtain ⟨at_, hat, hle⟩ : ∃ n : Nat, (k : Int) % ((l.length : Int) + 1) = (n : Int) ∧ n ≤ l.length := ⟨k % (l.length + 1), by rw [Int.natCast_emod]; rfl, by have := Nat.mod_lt k (show 0 < l.length + 1 by omega); omega⟩
    go_enter Tryd.func4, Tryd.ntmps4
    go_wp2_with fail
    refine (wakes_calls w hT).mono ?_
    rintro e w1 ⟨rfl, b1⟩
    have hT1 := hT.below b1 hT.lt
    have hR1 := hR.below b1
    go_wp2_with fail
    rw [hat]
    clear hat
    refine wp_region_grow (by kernel_rfl) (by kernel_rfl) ?_
    repeat (go_big_quiet_step (fail))
    go_big_quiet_step (exact calls_grow_same (of_at (l.take at_) at_ A cap _ (hT1.below (grow_below _ _) hT1.lt) (by simp; omega) (by omega) ((hR1.take at_).below (grow_below _ _))))
    repeat (go_big_quiet_step (fail))
    go_big_quiet_step (exact calls_grow_same (of_at (l.drop at_) (l.length - at_) _ _ _ (hT1.below (grow_below _ _) hT1.lt) (by simp) (by omega) ((hR1.drop at_ cap hcap).below (grow_below _ _))))
    repeat (go_big_quiet_step (fail))
    go_big_quiet_step (exact calls_grow (join_int _ _ _ (l.length - at_) _ (hT1.below (grow_below _ _) hT1.lt) (by omega) (by omega)))
    repeat (go_big_quiet_step (fail))
    refine wpQuiet_nil ?_
    intro _ hw'
    obtain ⟨r, rfl⟩ := hw'
    have b2 := grow_below w1 r
    have hT2 := hT1.below b2 hT1.lt
    have hR2 := hR1.below b2
    have b12 := b1.trans (b2.mono b1.size)
    generalize grow w1 r = w2 at *
    clear b1 b2 hT1 hR1
    have HJ : Hid (far (l.length - at_) (more 0#32 (l.take at_)) ^^^ more 0#32 (l.drop at_) = more 0#32 l) := by
      have := join_parts (l.take at_) (l.drop at_)
      rw [List.take_append_drop, List.length_drop] at this
      exact this
    have HM : Hid (more (more 0#32 (l.take at_)) (l.drop at_) = more 0#32 l) := by
      have := more_append 0#32 (l.take at_) (l.drop at_)
      rw [List.take_append_drop] at this
      exact this.symm
    rw [HJ.out]
    generalize (if cap = at_ then A else Option.map (fun x => x.add at_) A) = Ad
    go_wp2_with fail
    refine wp_region_grow (by kernel_rfl) (by kernel_rfl) ?_
    repeat (go_big_quiet_step (fail))
    go_big_quiet_step (exact calls_grow_same (of_at (l.take at_) at_ A cap _ (hT2.below (grow_below _ _) hT2.lt) (by simp; omega) (by omega) ((hR2.take at_).below (grow_below _ _))))
    repeat (go_big_quiet_step (fail))
    go_big_quiet_step (exact calls_grow_same (more_at _ (l.drop at_) (l.length - at_) _ _ _ (hT2.below (grow_below _ _) hT2.lt) (by simp) (by omega) ((hR2.drop at_ cap hcap).below (grow_below _ _))))
    rw [HM.out]
    repeat (go_big_quiet_step (fail))
    go_big_quiet_step (exact calls_grow_same (of_calls l A cap _ (hT2.below (grow_below _ _) hT2.lt) hl (hR2.below (grow_below _ _))))
    repeat (go_big_quiet_step (fail))
    go_big_quiet_step (exact calls_grow_same (of_calls l A cap _ (hT2.below (grow_below _ _) hT2.lt) hl (hR2.below (grow_below _ _))))
    repeat (go_big_quiet_step (fail))
    refine wpQuiet_nil ?_
    intro _ hw'
    obtain ⟨r, rfl⟩ := hw'
    have b3 := grow_below w2 r
    have b23 := b12.trans (b3.mono b12.size)
    generalize (if cap = at_ then A else Option.map (fun x => x.add at_) A) = Ad2
    go_wp2
    go_ret
    exact ⟨rfl, b23⟩
end Go.Proofs.YtoglecgkodmppaaDoor
