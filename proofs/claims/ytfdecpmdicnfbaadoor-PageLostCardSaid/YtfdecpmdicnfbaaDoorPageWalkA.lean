/-
  The walks of package page's small functions: Room, Need, number, plain, put.
-/
import Derived.Test.YtfdecpmdicnfbaaDoorPagePlain
import Derived.Test.YtfdecpmdicnfbaaDoorDiskWalkI
import Derived.Test.YtfdecpmdicnfbaaDoorSumWalkA
namespace Go.Proofs.YtfdecpmdicnfbaaDoor
open Go.RowKit DiskP SumP PageP

theorem proom_calls (size sectors : Int) (w : World) : Calls Tryd.prog 9 #[.int .i64 size, .int .i64 sectors] w fun e w' => e = .returned (.int .i64 (room size sectors)) ∧ w = w' := by
  by_cases h1 : size < 19
  · have HE : Hid (room size sectors = 0) := if_pos (.inl h1)
    have d1 : decide (size < 19) = true := by simpa using h1
    go_enter Tryd.func9, Tryd.ntmps9
    go_wp2
    go_ret
    exact ⟨by rw [HE.out]; rfl, rfl⟩
  have d1 : decide (size < 19) = false := by simpa using h1
  by_cases h2 : 4096 < size
  · have HE : Hid (room size sectors = 0) := if_pos (.inr (.inl h2))
    have d2 : decide (4096 < size) = true := by simpa using h2
    go_enter Tryd.func9, Tryd.ntmps9
    go_wp2
    go_ret
    exact ⟨by rw [HE.out]; rfl, rfl⟩
  have d2 : decide (4096 < size) = false := by simpa using h2
  by_cases h3 : sectors < 1
  · have HE : Hid (room size sectors = 0) := if_pos (.inr (.inr (.inl h3)))
    have d3 : decide (sectors < 1) = true := by simpa using h3
    go_enter Tryd.func9, Tryd.ntmps9
    go_wp2
    go_ret
    exact ⟨by rw [HE.out]; rfl, rfl⟩
  have d3 : decide (sectors < 1) = false := by simpa using h3
  by_cases h4 : 65536 < sectors
  · have HE : Hid (room size sectors = 0) := if_pos (.inr (.inr (.inr h4)))
    have d4 : decide (65536 < sectors) = true := by simpa using h4
    go_enter Tryd.func9, Tryd.ntmps9
    go_wp2
    go_ret
    exact ⟨by rw [HE.out]; rfl, rfl⟩
  have d4 : decide (65536 < sectors) = false := by simpa using h4
  have HE : Hid (room size sectors = (size - 18) * sectors) := if_neg (by omega)
  have hm : (size - 18) * sectors ≤ 4078 * 65536 := Int.mul_le_mul (by omega) (by omega) (by omega) (by omega)
  have hm0 : 0 ≤ (size - 18) * sectors := Int.mul_nonneg (by omega) (by omega)
  go_enter Tryd.func9, Tryd.ntmps9
  go_wp2
  go_ret
  exact ⟨by rw [HE.out]; rfl, rfl⟩
theorem pneed_calls (size bytes : Int) (w : World) : Calls Tryd.prog 10 #[.int .i64 size, .int .i64 bytes] w fun e w' => e = .returned (.int .i64 (need size bytes)) ∧ w = w' := by
  by_cases h1 : size < 19
  · have HE : Hid (need size bytes = 0) := if_pos (.inl h1)
    have d1 : decide (size < 19) = true := by simpa using h1
    go_enter Tryd.func10, Tryd.ntmps10
    go_wp2
    go_ret
    exact ⟨by rw [HE.out]; rfl, rfl⟩
  have d1 : decide (size < 19) = false := by simpa using h1
  by_cases h2 : 4096 < size
  · have HE : Hid (need size bytes = 0) := if_pos (.inr (.inl h2))
    have d2 : decide (4096 < size) = true := by simpa using h2
    go_enter Tryd.func10, Tryd.ntmps10
    go_wp2
    go_ret
    exact ⟨by rw [HE.out]; rfl, rfl⟩
  have d2 : decide (4096 < size) = false := by simpa using h2
  by_cases h3 : bytes < 0
  · have HE : Hid (need size bytes = 0) := if_pos (.inr (.inr (.inl h3)))
    have d3 : decide (bytes < 0) = true := by simpa using h3
    go_enter Tryd.func10, Tryd.ntmps10
    go_wp2
    go_ret
    exact ⟨by rw [HE.out]; rfl, rfl⟩
  have d3 : decide (bytes < 0) = false := by simpa using h3
  by_cases h4 : 1073741824 < bytes
  · have HE : Hid (need size bytes = 0) := if_pos (.inr (.inr (.inr h4)))
    have d4 : decide (1073741824 < bytes) = true := by simpa using h4
    go_enter Tryd.func10, Tryd.ntmps10
    go_wp2
    go_ret
    exact ⟨by rw [HE.out]; rfl, rfl⟩
  have d4 : decide (1073741824 < bytes) = false := by simpa using h4
  by_cases h5 : (bytes + (size - 18) - 1) / (size - 18) < 1
  · have HE : Hid (need size bytes = 1) := by show _ = _; unfold need; rw [if_neg (by omega), if_pos h5]
    go_enter Tryd.func10, Tryd.ntmps10
    go_wp2
    go_ret
    exact ⟨by rw [HE.out]; rfl, rfl⟩
  · have HE : Hid (need size bytes = (bytes + (size - 18) - 1) / (size - 18)) := by show _ = _; unfold need; rw [if_neg (by omega), if_neg h5]
    go_enter Tryd.func10, Tryd.ntmps10
    go_wp2
    go_ret
    exact ⟨by rw [HE.out]; rfl, rfl⟩
theorem plain_calls (l : List UInt8) (A : Option Addr) (cap : Nat) (w : World) (hR : RB w A l) (hl : l.length ≤ 9223372036854775807) :
    Calls Tryd.prog 32 #[.slice A l.length cap] w fun e w' => e = .returned (.bool (plainB l)) ∧ w = w' := by
  go_enter Tryd.func32, Tryd.ntmps32
  go_wp2
  go_loop [4, 7] (fun _ i => ∃ k : Nat, k ≤ l.length ∧ i = .int .i64 k ∧ plainB (l.take k) = true) (fun _ i => l.length - (intOf i).toNat)
  case atStart => exact ⟨0, by omega, rfl, rfl⟩
  case round =>
    obtain ⟨k, hk, rfl, hp⟩ := hrel
    by_cases hlt : k < l.length
    · obtain ⟨b, off, rfl, hb, hc⟩ := RB.at_ hR hlt
      have HT : Hid (plainB (l.take (k + 1)) = (l[k] == 0)) := by show _ = _; unfold plainB at hp ⊢; rw [List.take_succ_eq_append_getElem hlt, List.all_append, hp]; simp
      have HD : Hid (l = l.take k ++ l[k] :: l.drop (k + 1)) := by show _ = _; rw [List.getElem_cons_drop]; exact (List.take_append_drop k l).symm
      have hdec : decide ((k : Int) < (l.length : Int)) = true := by simp; omega
      generalize l[k] = c at *
      have HP := Lib.hid hp
      clear hp
      by_cases hz : c = 0
      · subst hz
        have hc' : w.cell? ⟨b, off + k, none⟩ = some (.int .u8 0) := hc
        clear hc
        go_wp2
        go_round
        case rel => exact ⟨k + 1, by omega, by go_num, by rw [HT.out]; rfl⟩
        case measure => simp [intOf]; omega
      · have hz1 : ((c.toNat : Int) != 0) = true := by
          have : ¬ c.toNat = 0 := fun e => hz (by rw [← UInt8.toNat_inj, e]; rfl)
          simp; omega
        have HF : Hid (plainB l = false) := by
          show _ = _
          rw [HD.out]
          unfold plainB
          simp [hz]
        clear HD HT
        go_wp2
        go_ret
        exact ⟨by rw [HF.out]; rfl, rfl⟩
    · obtain rfl : k = l.length := by omega
      rw [List.take_length] at hp
      have HP := Lib.hid hp
      clear hp
      go_wp2
      go_ret
      exact ⟨by rw [HP.out]; rfl, rfl⟩
end Go.Proofs.YtfdecpmdicnfbaaDoor
