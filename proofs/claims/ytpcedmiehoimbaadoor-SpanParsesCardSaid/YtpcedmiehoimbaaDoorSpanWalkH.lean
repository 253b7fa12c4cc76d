/-
  The document's Number: what it reads a text as.
-/
import Derived.Test.YtpcedmiehoimbaaDoorSpanWalkG
import Derived.Test.YtpcedmiehoimbaaDoorSpanTextPlain
namespace Go.Proofs.YtpcedmiehoimbaaDoor
open Go.RowKit SpanP
/-- Byte k of a text, as a number; 0 behind its end. -/
def bAt (l : List UInt8) (k : Nat) : Int := if h : k < l.length then (l[k].toNat : Int) else 0
theorem get_bAt (l : List UInt8) : ∀ (n : Nat) (h : n < (bstr l).size), (((bstr l)[n]'h).toNat : Int) = bAt l n := fun n h => by
  have h' : n < l.length := h
  unfold bAt
  rw [dif_pos h']
  rfl
theorem bAt_get {l : List UInt8} {k : Nat} (h : k < l.length) : bAt l k = (l[k].toNat : Int) := dif_pos h
theorem bAt_le (l : List UInt8) (k : Nat) : 0 ≤ bAt l k ∧ bAt l k ≤ 255 := by
  unfold bAt
  split
  · have := (l[k]).toNat_lt
    omega
  · omega
theorem numGo_step {l : List UInt8} {k : Nat} (h : k < l.length) (n : Int) : numGo n (l.drop k) = if bAt l k - 48 < 0 ∨ 9 < bAt l k - 48 ∨ (4611686018427387904 - (bAt l k - 48)) / 10 < n then -1 else numGo (10 * n + (bAt l k - 48)) (l.drop (k + 1)) := by
  rw [List.drop_eq_getElem_cons h, bAt_get h]
  rfl
theorem numL_eq (l : List UInt8) (h : l.length ≠ 0) : numL l = if 19 < l.length ∨ (bAt l 0 = 48 ∧ 1 < l.length) then -1 else numGo 0 l := by
  cases l with
  | nil => exact absurd rfl h
  | cons c r =>
    have e : bAt (c :: r) 0 = (c.toNat : Int) := rfl
    have e2 : ((c :: r).head? = some 48) ↔ (bAt (c :: r) 0 = 48) := by
      rw [e]
      simp only [List.head?_cons, Option.some.injEq, ← UInt8.toNat_inj]
      have : (48 : UInt8).toNat = 48 := rfl
      omega
    unfold numL
    simp only [e2]
    congr 1
    exact propext ⟨fun h' => h'.resolve_left h, .inr⟩
theorem rnumber_nil (w : World) : Calls Tryd.prog 42 #[.string (bstr [])] w fun e w' => e = .returned (.int .i64 (numL [])) ∧ Gr w w' := by
  have HE : Hid (numL [] = -1) := rfl
  go_enter Tryd.func42, Tryd.ntmps42
  go_wp2
  go_ret
  exact ⟨by rw [HE.out]; rfl, Gr.refl _⟩
set_option maxHeartbeats 1600000 in
theorem rnumber_calls (l : List UInt8) (hl : l.length ≤ 1000) (w : World) : Calls Tryd.prog 42 #[.string (bstr l)] w fun e w' => e = .returned (.int .i64 (numL l)) ∧ Gr w w' := by
  by_cases hz : l.length = 0
  · rw [List.length_eq_zero_iff] at hz
    subst hz
    exact rnumber_nil w
  have HE : Hid (numL l = if 19 < l.length ∨ (bAt l 0 = 48 ∧ 1 < l.length) then -1 else numGo 0 l) := numL_eq l hz
  have hb := get_bAt l
  have hs : (bstr l).size = l.length := rfl
  by_cases h1 : 19 < l.length
  · have HF : Hid (numL l = -1) := by show _ = _; rw [HE.out, if_pos (.inl h1)]
    clear HE
    go_enter Tryd.func42, Tryd.ntmps42
    go_wp2
    go_ret
    exact ⟨by rw [HF.out]; rfl, Gr.refl _⟩
  by_cases h2 : bAt l 0 = 48 ∧ 1 < l.length
  · have HF : Hid (numL l = -1) := by show _ = _; rw [HE.out, if_pos (.inr h2)]
    clear HE
    obtain ⟨h3, h4⟩ := h2
    go_enter Tryd.func42, Tryd.ntmps42
    go_wp2
    go_ret
    exact ⟨by rw [HF.out]; rfl, Gr.refl _⟩
  have HF : Hid (numL l = numGo 0 l) := by show _ = _; rw [HE.out, if_neg (fun h => h.elim h1 h2)]
  clear HE
  have key : ∀ w : World, Calls Tryd.prog 42 #[.string (bstr l)] w fun e w' => e = .returned (.int .i64 (numGo 0 l)) ∧ w = w' := by
    intro w
    have hf : ((l.length : Int) == 0) = false := beq_eq_false_iff_ne.2 (by omega)
    have h19 : decide (19 < (l.length : Int)) = false := by simp; omega
    have h19' : decide (19 < l.length) = false := by simp; omega
    have hz0 : 0 < l.length := by omega
    by_cases h3 : bAt l 0 = 48
    · have h4 : decide (1 < (l.length : Int)) = false := by simp; omega
      have h4' : decide (1 < l.length) = false := by simp; omega
      have h5 : (bAt l 0 == 48) = true := by simpa using h3
      clear h3 h2 HF
      go_enter Tryd.func42, Tryd.ntmps42
      go_wp2
      go_loop [3, 4] (fun n i => ∃ (k : Nat) (v : Int), k ≤ l.length ∧ i = .int .i64 k ∧ n = .int .i64 v ∧ 0 ≤ v ∧ v ≤ 4611686018427387904 ∧ Hid (numGo v (l.drop k) = numGo 0 l)) (fun _ i => l.length - (intOf i).toNat)
      case atStart => exact ⟨0, 0, by omega, rfl, rfl, by omega, by omega, rfl⟩
      case round =>
        obtain ⟨k, v, hk, rfl, rfl, hv0, hv1, HV⟩ := hrel
        by_cases hlt : k < l.length
        · have ST : Hid _ := numGo_step hlt v
          have hdec : decide ((k : Int) < (l.length : Int)) = true := by simp; omega
          obtain ⟨b0, b1⟩ := bAt_le l k
          obtain ⟨c, hc⟩ : ∃ c, bAt l k = c := ⟨_, rfl⟩
          rw [hc] at b0 b1
          replace ST : Hid _ := hc ▸ ST
          have w1 : wrap64 c = c := by unfold wrap64; omega
          have w2 : wrap64 (c - 48) = c - 48 := by unfold wrap64; omega
          by_cases q1 : c - 48 < 0
          · have HR : Hid (numGo 0 l = -1) := by show _ = _; rw [← HV.out, ST.out, if_pos (.inl q1)]
            clear ST HV
            go_wp2
            go_ret
            exact ⟨by rw [HR.out]; rfl, rfl⟩
          · by_cases q2 : 9 < c - 48
            · have HR : Hid (numGo 0 l = -1) := by show _ = _; rw [← HV.out, ST.out, if_pos (.inr (.inl q2))]
              clear ST HV
              go_wp2
              go_ret
              exact ⟨by rw [HR.out]; rfl, rfl⟩
            · have e2 : (4611686018427387904 - (c - 48)).tdiv 10 = (4611686018427387904 - (c - 48)) / 10 := Int.tdiv_eq_ediv_of_nonneg (by omega)
              by_cases q3 : (4611686018427387904 - (c - 48)) / 10 < v
              · have HR : Hid (numGo 0 l = -1) := by show _ = _; rw [← HV.out, ST.out, if_pos (.inr (.inr q3))]
                clear ST HV
                go_wp2
                go_ret
                exact ⟨by rw [HR.out]; rfl, rfl⟩
              · have HR : Hid (numGo (10 * v + (c - 48)) (l.drop (k + 1)) = numGo 0 l) := by
                  show _ = _
                  rw [← HV.out, ST.out, if_neg (fun h => by rcases h with h | h | h; exact q1 h; exact q2 h; exact q3 h)]
                clear ST HV
                go_wp2
                go_round
                case rel => exact ⟨k + 1, 10 * v + (c - 48), by omega, by go_num, by go_num, by omega, by omega, HR⟩
                case measure => simp [intOf]; omega
        · obtain rfl : k = l.length := by omega
          have HR : Hid (numGo 0 l = v) := by show _ = _; rw [← HV.out, List.drop_length]; rfl
          clear HV
          go_wp2
          go_ret
          exact ⟨by rw [HR.out]; rfl, rfl⟩
    · have h4 : (bAt l 0 == 48) = false := by simpa using h3
      clear h3 h2 HF
      go_enter Tryd.func42, Tryd.ntmps42
      go_wp2
      go_loop [3, 4] (fun n i => ∃ (k : Nat) (v : Int), k ≤ l.length ∧ i = .int .i64 k ∧ n = .int .i64 v ∧ 0 ≤ v ∧ v ≤ 4611686018427387904 ∧ Hid (numGo v (l.drop k) = numGo 0 l)) (fun _ i => l.length - (intOf i).toNat)
      case atStart => exact ⟨0, 0, by omega, rfl, rfl, by omega, by omega, rfl⟩
      case round =>
        obtain ⟨k, v, hk, rfl, rfl, hv0, hv1, HV⟩ := hrel
        by_cases hlt : k < l.length
        · have ST : Hid _ := numGo_step hlt v
          have hdec : decide ((k : Int) < (l.length : Int)) = true := by simp; omega
          obtain ⟨b0, b1⟩ := bAt_le l k
          obtain ⟨c, hc⟩ : ∃ c, bAt l k = c := ⟨_, rfl⟩
          rw [hc] at b0 b1
          replace ST : Hid _ := hc ▸ ST
          have w1 : wrap64 c = c := by unfold wrap64; omega
          have w2 : wrap64 (c - 48) = c - 48 := by unfold wrap64; omega
          by_cases q1 : c - 48 < 0
          · have HR : Hid (numGo 0 l = -1) := by show _ = _; rw [← HV.out, ST.out, if_pos (.inl q1)]
            clear ST HV
            go_wp2
            go_ret
            exact ⟨by rw [HR.out]; rfl, rfl⟩
          · by_cases q2 : 9 < c - 48
            · have HR : Hid (numGo 0 l = -1) := by show _ = _; rw [← HV.out, ST.out, if_pos (.inr (.inl q2))]
              clear ST HV
              go_wp2
              go_ret
              exact ⟨by rw [HR.out]; rfl, rfl⟩
            · have e2 : (4611686018427387904 - (c - 48)).tdiv 10 = (4611686018427387904 - (c - 48)) / 10 := Int.tdiv_eq_ediv_of_nonneg (by omega)
              by_cases q3 : (4611686018427387904 - (c - 48)) / 10 < v
              · have HR : Hid (numGo 0 l = -1) := by show _ = _; rw [← HV.out, ST.out, if_pos (.inr (.inr q3))]
                clear ST HV
                go_wp2
                go_ret
                exact ⟨by rw [HR.out]; rfl, rfl⟩
              · have HR : Hid (numGo (10 * v + (c - 48)) (l.drop (k + 1)) = numGo 0 l) := by
                  show _ = _
                  rw [← HV.out, ST.out, if_neg (fun h => by rcases h with h | h | h; exact q1 h; exact q2 h; exact q3 h)]
                clear ST HV
                go_wp2
                go_round
                case rel => exact ⟨k + 1, 10 * v + (c - 48), by omega, by go_num, by go_num, by omega, by omega, HR⟩
                case measure => simp [intOf]; omega
        · obtain rfl : k = l.length := by omega
          have HR : Hid (numGo 0 l = v) := by show _ = _; rw [← HV.out, List.drop_length]; rfl
          clear HV
          go_wp2
          go_ret
          exact ⟨by rw [HR.out]; rfl, rfl⟩
  refine (key w).mono ?_
  rintro e w' ⟨rfl, rfl⟩
  exact ⟨by rw [HF.out], Gr.refl _⟩
end Go.Proofs.YtpcedmiehoimbaaDoor
