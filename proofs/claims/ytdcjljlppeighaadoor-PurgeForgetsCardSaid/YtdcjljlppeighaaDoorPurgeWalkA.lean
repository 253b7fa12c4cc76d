/-
  Walks: may a text be a key; is a text in a list.
-/
import Derived.Test.YtdcjljlppeighaaDoorPurgeMem
import Derived.Test.YtdcjljlppeighaaDoorChecked
import Derived.BigQuiet
import Derived.Deep.QuietTactic
namespace Go.Proofs.YtdcjljlppeighaaDoor
open Go.RowKit PurgeP

theorem bstr_add (a b : List UInt8) : bstr a ++ bstr b = bstr (a ++ b) := by
  unfold bstr
  apply ByteArray.ext
  simp
theorem bstr_size (a : List UInt8) : (bstr a).size = a.length := rfl
theorem bstr_list (t : List UInt8) : (bstr t).toList = t := by
  rw [ByteArray.toList_eq]; rfl
theorem bstr_beq (a b : Txt) : ((bstr a).toList == (bstr b).toList) = (a == b) := by rw [bstr_list, bstr_list]
/-- Byte k of a text, as a number; 0 behind its end. -/
def bAt (l : List UInt8) (k : Nat) : Int := if h : k < l.length then (l[k].toNat : Int) else 0
theorem get_bAt (l : List UInt8) : ∀ (n : Nat) (h : n < (bstr l).size), (((bstr l)[n]'h).toNat : Int) = bAt l n := fun n h => by
  have h' : n < l.length := h
  unfold bAt
  rw [dif_pos h']
  rfl
theorem bAt_get {l : List UInt8} {k : Nat} (h : k < l.length) : bAt l k = (l[k].toNat : Int) := dif_pos h
theorem all_take (l : List UInt8) (k : Nat) (hk : k < l.length) (p : UInt8 → Bool) : (l.take (k + 1)).all p = ((l.take k).all p && p l[k]) := by
  rw [List.take_succ_eq_append_getElem hk, List.all_append]; simp
theorem all_not (l : List UInt8) (k : Nat) (hk : k < l.length) (p : UInt8 → Bool) (h : p l[k] = false) : l.all p = false := by
  rw [List.all_eq_false]
  exact ⟨_, List.getElem_mem hk, by rw [h]; decide⟩
set_option maxHeartbeats 800000 in
theorem key_calls (l : Txt) (w : World) : Calls Tryd.prog 60 #[.string (bstr l)] w fun e w' => e = .returned (.bool (keyB l)) ∧ w = w' := by
  have hb := get_bAt l
  have hs : (bstr l).size = l.length := rfl
  by_cases h1 : 1 ≤ l.length ∧ l.length ≤ 200
  · have d1 : decide ((l.length : Int) < 1) = false := decide_eq_false (by omega)
    have d2 : decide (200 < (l.length : Int)) = false := decide_eq_false (by omega)
    have d1n : decide (l.length < 1) = false := decide_eq_false (by omega)
    have d2n : decide (200 < l.length) = false := decide_eq_false (by omega)
    have HK : Hid (keyB l = l.all keyC) := by show _ = _; unfold keyB; rw [decide_eq_true h1.1, decide_eq_true h1.2]; rfl
    go_enter Tryd.func60, Tryd.ntmps60
    go_wp2
    go_loop [14] (fun i => ∃ k : Nat, k ≤ l.length ∧ i = .int .i64 k ∧ (l.take k).all keyC = true) (fun i => l.length - (intOf i).toNat)
    case atStart => exact ⟨0, by omega, rfl, rfl⟩
    case round =>
      obtain ⟨k, hk, rfl, hp⟩ := hrel
      by_cases hlt : k < l.length
      · have HT := Lib.hid (all_take l k hlt keyC)
        have HN := Lib.hid (all_not l k hlt keyC)
        have hdec : decide ((k : Int) < (l.length : Int)) = true := by simp; omega
        have hdec' : decide (k < l.length) = true := decide_eq_true hlt
        have hbk := bAt_get hlt
        generalize l[k] = c at *
        have HP := Lib.hid hp
        have hc0 : 0 ≤ bAt l k := by rw [hbk]; omega
        clear hp
        by_cases hz : keyC c = true
        · have hz2 : 33 ≤ c.toNat ∧ c.toNat ≤ 126 := by unfold keyC at hz; simpa using hz
          have e1 : decide (bAt l k < 33) = false := decide_eq_false (by omega)
          have e2 : decide (126 < bAt l k) = false := decide_eq_false (by omega)
          have HR : Hid ((l.take (k + 1)).all keyC = true) := by show _ = _; rw [HT.out, HP.out, hz]; rfl
          clear hz hbk
          go_wp2
          go_round
          case rel => exact ⟨k + 1, by omega, by go_num, HR.out⟩
          case measure => simp [intOf]; omega
        · have hz' : keyC c = false := by simpa using hz
          have HF : Hid (keyB l = false) := by show _ = _; rw [HK.out, HN.out hz']
          have hz2 : c.toNat < 33 ∨ 126 < c.toNat := by
            by_cases a : c.toNat < 33
            · exact .inl a
            · by_cases b : 126 < c.toNat
              · exact .inr b
              · exact absurd (show keyC c = true by unfold keyC; simp; omega) hz
          have e12 : decide (bAt l k < 33) = true ∨ (decide (bAt l k < 33) = false ∧ decide (126 < bAt l k) = true) := by
            by_cases a : bAt l k < 33
            · exact .inl (decide_eq_true a)
            · exact .inr ⟨decide_eq_false a, decide_eq_true (by omega)⟩
          clear hz hz' hz2 hbk HN HT
          rcases e12 with e1 | ⟨e1, e2⟩
          all_goals
            go_wp2
            go_ret
            exact ⟨by rw [HF.out]; rfl, rfl⟩
      · obtain rfl : k = l.length := by omega
        rw [List.take_length] at hp
        have HP : Hid (keyB l = true) := by show _ = _; rw [HK.out, hp]
        clear hp
        go_wp2
        go_ret
        exact ⟨by rw [HP.out]; rfl, rfl⟩
  · have HF : Hid (keyB l = false) := by
      show _ = _
      unfold keyB
      by_cases a : 1 ≤ l.length
      · rw [decide_eq_true a, decide_eq_false (show ¬ l.length ≤ 200 by omega)]; rfl
      · rw [decide_eq_false a]; rfl
    have d12 : decide ((l.length : Int) < 1) = true ∨ (decide ((l.length : Int) < 1) = false ∧ decide (200 < (l.length : Int)) = true) := by
      by_cases a : (l.length : Int) < 1
      · exact .inl (decide_eq_true a)
      · exact .inr ⟨decide_eq_false a, decide_eq_true (by omega)⟩
    clear h1
    rcases d12 with d1 | ⟨d1, d2⟩
    all_goals
      go_enter Tryd.func60, Tryd.ntmps60
      go_wp2
      go_ret
      exact ⟨by rw [HF.out]; rfl, rfl⟩
set_option maxHeartbeats 800000 in
theorem rkey_calls (l : Txt) (w : World) : Calls Tryd.prog 56 #[.string (bstr l)] w fun e w' => e = .returned (.bool (keyB l)) ∧ w = w' := by
  have hb := get_bAt l
  have hs : (bstr l).size = l.length := rfl
  by_cases h1 : 1 ≤ l.length ∧ l.length ≤ 200
  · have d1 : decide ((l.length : Int) < 1) = false := decide_eq_false (by omega)
    have d2 : decide (200 < (l.length : Int)) = false := decide_eq_false (by omega)
    have d1n : decide (l.length < 1) = false := decide_eq_false (by omega)
    have d2n : decide (200 < l.length) = false := decide_eq_false (by omega)
    have HK : Hid (keyB l = l.all keyC) := by show _ = _; unfold keyB; rw [decide_eq_true h1.1, decide_eq_true h1.2]; rfl
    go_enter Tryd.func56, Tryd.ntmps56
    go_wp2
    go_loop [3] (fun i => ∃ k : Nat, k ≤ l.length ∧ i = .int .i64 k ∧ (l.take k).all keyC = true) (fun i => l.length - (intOf i).toNat)
    case atStart => exact ⟨0, by omega, rfl, rfl⟩
    case round =>
      obtain ⟨k, hk, rfl, hp⟩ := hrel
      by_cases hlt : k < l.length
      · have HT := Lib.hid (all_take l k hlt keyC)
        have HN := Lib.hid (all_not l k hlt keyC)
        have hdec : decide ((k : Int) < (l.length : Int)) = true := by simp; omega
        have hdec' : decide (k < l.length) = true := decide_eq_true hlt
        have hbk := bAt_get hlt
        generalize l[k] = c at *
        have HP := Lib.hid hp
        have hc0 : 0 ≤ bAt l k := by rw [hbk]; omega
        clear hp
        by_cases hz : keyC c = true
        · have hz2 : 33 ≤ c.toNat ∧ c.toNat ≤ 126 := by unfold keyC at hz; simpa using hz
          have e1 : decide (bAt l k < 33) = false := decide_eq_false (by omega)
          have e2 : decide (126 < bAt l k) = false := decide_eq_false (by omega)
          have HR : Hid ((l.take (k + 1)).all keyC = true) := by show _ = _; rw [HT.out, HP.out, hz]; rfl
          clear hz hbk
          go_wp2
          go_round
          case rel => exact ⟨k + 1, by omega, by go_num, HR.out⟩
          case measure => simp [intOf]; omega
        · have hz' : keyC c = false := by simpa using hz
          have HF : Hid (keyB l = false) := by show _ = _; rw [HK.out, HN.out hz']
          have hz2 : c.toNat < 33 ∨ 126 < c.toNat := by
            by_cases a : c.toNat < 33
            · exact .inl a
            · by_cases b : 126 < c.toNat
              · exact .inr b
              · exact absurd (show keyC c = true by unfold keyC; simp; omega) hz
          have e12 : decide (bAt l k < 33) = true ∨ (decide (bAt l k < 33) = false ∧ decide (126 < bAt l k) = true) := by
            by_cases a : bAt l k < 33
            · exact .inl (decide_eq_true a)
            · exact .inr ⟨decide_eq_false a, decide_eq_true (by omega)⟩
          clear hz hz' hz2 hbk HN HT
          rcases e12 with e1 | ⟨e1, e2⟩
          all_goals
            go_wp2
            go_ret
            exact ⟨by rw [HF.out]; rfl, rfl⟩
      · obtain rfl : k = l.length := by omega
        rw [List.take_length] at hp
        have HP : Hid (keyB l = true) := by show _ = _; rw [HK.out, hp]
        clear hp
        go_wp2
        go_ret
        exact ⟨by rw [HP.out]; rfl, rfl⟩
  · have HF : Hid (keyB l = false) := by
      show _ = _
      unfold keyB
      by_cases a : 1 ≤ l.length
      · rw [decide_eq_true a, decide_eq_false (show ¬ l.length ≤ 200 by omega)]; rfl
      · rw [decide_eq_false a]; rfl
    have d12 : decide ((l.length : Int) < 1) = true ∨ (decide ((l.length : Int) < 1) = false ∧ decide (200 < (l.length : Int)) = true) := by
      by_cases a : (l.length : Int) < 1
      · exact .inl (decide_eq_true a)
      · exact .inr ⟨decide_eq_false a, decide_eq_true (by omega)⟩
    clear h1
    rcases d12 with d1 | ⟨d1, d2⟩
    all_goals
      go_enter Tryd.func56, Tryd.ntmps56
      go_wp2
      go_ret
      exact ⟨by rw [HF.out]; rfl, rfl⟩
end Go.Proofs.YtdcjljlppeighaaDoor
