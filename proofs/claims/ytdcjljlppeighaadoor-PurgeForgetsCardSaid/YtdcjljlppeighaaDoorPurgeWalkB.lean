/-
  Walks: is a text in a list; may a line be.
-/
import Derived.Test.YtdcjljlppeighaaDoorPurgeWalkA
namespace Go.Proofs.YtdcjljlppeighaaDoor
open Go.RowKit PurgeP

/-- A slice at A reads as those texts. -/
def RS (w : World) (A : Option Addr) (ks : List Txt) : Prop := RV w A (cS ks)
theorem RS.at_ {w : World} {A : Option Addr} {ks : List Txt} (h : RS w A ks) {k : Nat} (hk : k < ks.length) :
    ∃ b off, A = some ⟨b, off, none⟩ ∧ b < w.heap.size ∧ w.cell? ⟨b, off + k, none⟩ = some (.string (bstr (ks.getD k []))) := by
  obtain ⟨b, off, e, hb, hc⟩ := h (by intro e; have := congrArg List.length e; rw [cS_len] at this; simp at this; rw [this] at hk; simp at hk)
  exact ⟨b, off, e, hb, hc k _ (cS_getD ks k hk)⟩
theorem RS.below {w w' : World} {A : Option Addr} {ks : List Txt} (h : RS w A ks) (hb : Below w.heap.size w w') : RS w' A ks := RV.below h hb
theorem RS.take {w : World} {A : Option Addr} {ks : List Txt} (h : RS w A ks) (k : Nat) : RS w A (ks.take k) := by
  intro hne
  have : cS ks ≠ [] := by
    intro e
    apply hne
    rw [← cS_take, e]; exact List.take_nil
  obtain ⟨b, off, e, hb, hc⟩ := h this
  refine ⟨b, off, e, hb, fun j v hj => hc j v ?_⟩
  rw [← cS_take, List.getElem?_take] at hj
  split at hj
  · exact hj
  · cases hj
theorem contains_succ (ks : List Txt) (s : Txt) (k : Nat) (hk : k < ks.length) : hasB (ks.take (k + 1)) s = (hasB (ks.take k) s || (ks.getD k [] == s)) := by
  rw [List.take_succ_eq_append_getElem hk, List.getD_eq_getElem?_getD, List.getElem?_eq_getElem hk, Option.getD_some]
  unfold hasB
  rw [Bool.eq_iff_iff, Bool.or_eq_true, List.contains_iff_mem, List.contains_iff_mem, List.mem_append, List.mem_singleton, beq_iff_eq]
  exact ⟨fun h => h.imp id Eq.symm, fun h => h.imp id Eq.symm⟩
theorem contains_at (ks : List Txt) (s : Txt) (k : Nat) (hk : k < ks.length) (h : (ks.getD k [] == s) = true) : hasB ks s = true := by
  unfold hasB
  rw [List.contains_iff_mem]
  rw [beq_iff_eq, List.getD_eq_getElem?_getD, List.getElem?_eq_getElem hk, Option.getD_some] at h
  rw [← h]; exact List.getElem_mem hk
theorem rhas_calls (ks : List Txt) (n : Nat) (hn : ks.length = n) (s : Txt) (A : Option Addr) (cap : Nat) (w : World) (hR : RS w A ks) (hl : n ≤ 9223372036854775807) :
    Calls Tryd.prog 57 #[.slice A n cap, .string (bstr s)] w fun e w' => e = .returned (.bool (hasB ks s)) ∧ w = w' := by
  subst hn
  have hbq := bstr_beq
  go_enter Tryd.func57, Tryd.ntmps57
  go_wp2
  go_loop [5] (fun i => ∃ k : Nat, k ≤ ks.length ∧ i = .int .i64 k ∧ hasB (ks.take k) s = false) (fun i => ks.length - (intOf i).toNat)
  case atStart => exact ⟨0, by omega, rfl, rfl⟩
  case round =>
    obtain ⟨k, hk, rfl, hp⟩ := hrel
    by_cases hlt : k < ks.length
    · have hdec : decide ((k : Int) < (ks.length : Int)) = true := decide_eq_true (by omega)
      have hdec' : decide (k < ks.length) = true := decide_eq_true hlt
      obtain ⟨b, off, rfl, hb, hc⟩ := hR.at_ hlt
      have HT := Lib.hid (contains_succ ks s k hlt)
      have HA := Lib.hid (contains_at ks s k hlt)
      have HP := Lib.hid hp
      clear hp
      generalize ks.getD k [] = c at *
      cases hq : (c == s)
      · have hq' : ((bstr c).toList == (bstr s).toList) = false := by rw [bstr_beq]; exact hq
        have HR : Hid (hasB (ks.take (k + 1)) s = false) := by show _ = _; rw [HT.out, HP.out, hq]; rfl
        clear hq hbq
        go_wp2
        go_round
        case rel => exact ⟨k + 1, by omega, by go_num, HR.out⟩
        case measure => simp [intOf]; omega
      · have hq' : ((bstr c).toList == (bstr s).toList) = true := by rw [bstr_beq]; exact hq
        have HF : Hid (hasB ks s = true) := HA.out hq
        clear hq hbq
        go_wp2
        go_ret
        exact ⟨by rw [HF.out]; rfl, rfl⟩
    · obtain rfl : k = ks.length := by omega
      rw [List.take_length] at hp
      have HF := Lib.hid hp
      clear hp hbq
      go_wp2
      go_ret
      exact ⟨by rw [HF.out]; rfl, rfl⟩
def Found (ks : List Txt) (s : Txt) (e : Ending) : Prop := ∃ x : Int, e = .returned (.int .i64 x) ∧ decide (0 ≤ x) = hasB ks s
theorem index_calls (ks : List Txt) (n : Nat) (hn : ks.length = n) (s : Txt) (A : Option Addr) (cap : Nat) (w : World) (hR : RS w A ks) (hl : n ≤ 9223372036854775807) :
    Calls Tryd.prog 59 #[.slice A n cap, .string (bstr s)] w fun e w' => Found ks s e ∧ w = w' := by
  subst hn
  go_enter Tryd.func59, Tryd.ntmps59
  go_wp2
  go_loop [8] (fun i => ∃ k : Nat, k ≤ ks.length ∧ i = .int .i64 k ∧ hasB (ks.take k) s = false) (fun i => ks.length - (intOf i).toNat)
  case atStart => exact ⟨0, by omega, rfl, rfl⟩
  case round =>
    obtain ⟨k, hk, rfl, hp⟩ := hrel
    by_cases hlt : k < ks.length
    · have hdec : decide ((k : Int) < (ks.length : Int)) = true := decide_eq_true (by omega)
      have hdec' : decide (k < ks.length) = true := decide_eq_true hlt
      obtain ⟨b, off, rfl, hb, hc⟩ := hR.at_ hlt
      have HT := Lib.hid (contains_succ ks s k hlt)
      have HA := Lib.hid (contains_at ks s k hlt)
      have HP := Lib.hid hp
      clear hp
      generalize ks.getD k [] = c at *
      cases hq : (c == s)
      · have hq' : ((bstr s).toList == (bstr c).toList) = false := by rw [bstr_beq, Bool.beq_comm]; exact hq
        have HR : Hid (hasB (ks.take (k + 1)) s = false) := by show _ = _; rw [HT.out, HP.out, hq]; rfl
        clear hq
        go_wp2
        go_round
        case rel => exact ⟨k + 1, by omega, by go_num, HR.out⟩
        case measure => simp [intOf]; omega
      · have hq' : ((bstr s).toList == (bstr c).toList) = true := by rw [bstr_beq, Bool.beq_comm]; exact hq
        have HF : Hid (hasB ks s = true) := HA.out hq
        clear hq
        go_wp2
        go_ret
        exact ⟨⟨_, rfl, by rw [HF.out]; exact decide_eq_true (by omega)⟩, rfl⟩
    · obtain rfl : k = ks.length := by omega
      rw [List.take_length] at hp
      have HF := Lib.hid hp
      clear hp
      go_wp2
      go_ret
      exact ⟨⟨_, rfl, by rw [HF.out]; rfl⟩, rfl⟩
theorem contains_calls (ks : List Txt) (n : Nat) (hn : ks.length = n) (s : Txt) (A : Option Addr) (cap : Nat) (w : World) (hR : RS w A ks) (hl : n ≤ 9223372036854775807) :
    Calls Tryd.prog 44 #[.slice A n cap, .string (bstr s)] w fun e w' => e = .returned (.bool (hasB ks s)) ∧ w = w' := by
  go_enter Tryd.func44, Tryd.ntmps44
  go_wp2_with fail
  refine (index_calls ks n hn s A cap w hR hl).mono ?_
  rintro e w' ⟨⟨x, rfl, hx⟩, rfl⟩
  have HX := Lib.hid hx
  clear hx
  go_wp2
  go_ret
  exact ⟨by rw [← HX.out]; rfl, rfl⟩
end Go.Proofs.YtdcjljlppeighaaDoor
