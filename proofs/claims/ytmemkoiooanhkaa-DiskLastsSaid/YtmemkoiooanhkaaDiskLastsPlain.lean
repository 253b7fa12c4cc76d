/-
  What DiskLasts keeps beside the disk, in plain words.
-/
import Derived.Test.YtmemkoiooanhkaaDiskLawC
namespace Go.Proofs.Ytmemkoiooanhkaa
open Go.RowKit DiskP

/-- What is wanted of each of six sectors: the byte that lasts, or (of 1000 on) the byte that waits. -/
structure LInv (d : Dsk) (want : List Int) : Prop where
  off : d.off = false
  size : d.size = 16
  ll : d.last.length = 6
  wl : want.length = 6
  at_ : ∀ i, i < 6 → ∃ x : UInt8, (want[i]? = some (x.toNat : Int) ∧ lastW d.wait i = none ∧ ∃ r, d.last[i]? = some ⟨some (List.replicate 16 x), r⟩) ∨
    (want[i]? = some (1000 + (x.toNat : Int)) ∧ ∃ r, lastW d.wait i = some ⟨some (List.replicate 16 x), r⟩)
def sub1000 (v : Int) : Int := if 1000 ≤ v then v - 1000 else v
theorem linv_new : LInv (newD 6 16) (List.replicate 6 0) := by
  refine ⟨rfl, rfl, by simp [newD], by simp, fun i hi => ⟨0, .inl ⟨?_, rfl, false, ?_⟩⟩⟩
  · rw [List.getElem?_replicate_of_lt hi]; rfl
  · show (List.replicate 6 (zeroS 16))[i]? = _
    rw [List.getElem?_replicate_of_lt hi]; rfl
theorem LInv.flush {d : Dsk} {want : List Int} (h : LInv d want) : LInv d.flush (want.map sub1000) := by
  refine ⟨h.off, h.size, ?_, by simp [h.wl], fun i hi => ?_⟩
  · show (applyW d.last d.wait).length = 6
    rw [applyW_length, h.ll]
  · obtain ⟨x, hx | hx⟩ := h.at_ i hi
    · obtain ⟨h1, h2, r, h3⟩ := hx
      refine ⟨x, .inl ⟨?_, rfl, r, ?_⟩⟩
      · rw [List.getElem?_map, h1]
        have := x.toNat_lt
        simp [sub1000]; omega
      · show (applyW d.last d.wait)[i]? = _
        have hl : i < d.last.length := by rw [h.ll]; exact hi
        rw [applyW_get _ _ i hl, h2]
        rw [List.getElem?_eq_getElem hl] at h3
        simpa using h3
    · obtain ⟨h1, r, h2⟩ := hx
      refine ⟨x, .inl ⟨?_, rfl, r, ?_⟩⟩
      · rw [List.getElem?_map, h1]
        simp [sub1000]; omega
      · show (applyW d.last d.wait)[i]? = _
        have hl : i < d.last.length := by rw [h.ll]; exact hi
        rw [applyW_get _ _ i hl, h2]
        rfl
theorem LInv.write {d : Dsk} {want : List Int} (h : LInv d want) {n : Nat} (hn : n < 6) (x : UInt8) : LInv (d.write n (List.replicate 16 x)) (want.set n (1000 + (x.toNat : Int))) := by
  refine ⟨h.off, h.size, h.ll, by simp [h.wl], fun i hi => ?_⟩
  have hw : lastW (d.write n (List.replicate 16 x)).wait i = if n = i then some ⟨some (List.replicate 16 x), false⟩ else lastW d.wait i := lastW_snoc _ _ _
  by_cases e : n = i
  · subst e
    exact ⟨x, .inr ⟨by rw [List.getElem?_set_self (by rw [h.wl]; exact hn)], false, by rw [hw, if_pos rfl]⟩⟩
  · rw [if_neg e] at hw
    obtain ⟨z, hz | hz⟩ := h.at_ i hi
    · exact ⟨z, .inl ⟨by rw [List.getElem?_set_ne e]; exact hz.1, by rw [hw]; exact hz.2.1, hz.2.2⟩⟩
    · exact ⟨z, .inr ⟨by rw [List.getElem?_set_ne e]; exact hz.1, by rw [hw]; exact hz.2⟩⟩
theorem LInv.writeE {d : Dsk} {want : List Int} (h : LInv d want) {n : Nat} (hn : n < 6) (x : UInt8) : d.writeE n (List.replicate 16 x) = 0 ∧ d.writeS n (List.replicate 16 x) = d.write n (List.replicate 16 x) := by
  have hh : d.has n = true := by simp [Dsk.has, h.ll]; omega
  have e : d.writeE n (List.replicate 16 x) = 0 := by unfold Dsk.writeE; rw [hh, h.off]; simp [h.size]
  exact ⟨e, if_pos e⟩
theorem LInv.flushE {d : Dsk} {want : List Int} (h : LInv d want) : d.flushE = 0 ∧ d.flushS = d.flush := by
  unfold DiskP.Dsk.flushE DiskP.Dsk.flushS
  rw [h.off]
  exact ⟨rfl, rfl⟩
/-- Behind the cut. -/
theorem LInv.cut {d : Dsk} {want : List Int} (h : LInv d want) (keep : List Bool) (torn : Int) : (d.cut keep torn).on.wait = [] ∧ ∀ (i : Nat) (v : Int), want[i]? = some v →
    ((d.cut keep torn).on.readE i = 0 ∨ (d.cut keep torn).on.readE i = 9) ∧ (v < 1000 → (d.cut keep torn).on.readE i = 0 ∧ ∃ x : UInt8, v = (x.toNat : Int) ∧ (d.cut keep torn).on.readL i = List.replicate 16 x) := by
  have e : (d.cut keep torn).on = { d with last := applyW d.last (keepW keep torn tornS 0 d.wait), wait := [], off := false } := by
    unfold Dsk.cut Dsk.on
    rw [h.off]
    rfl
  rw [e]
  refine ⟨rfl, fun i v hv => ?_⟩
  have hi : i < 6 := by
    rcases Nat.lt_or_ge i 6 with h1 | h1
    · exact h1
    · rw [List.getElem?_eq_none (by rw [h.wl]; exact h1)] at hv; cases hv
  have hl : i < d.last.length := by rw [h.ll]; exact hi
  have hget : (applyW d.last (keepW keep torn tornS 0 d.wait))[i]? = some ((lastW (keepW keep torn tornS 0 d.wait) i).getD d.last[i]) := applyW_get _ _ i hl
  have hr : ∀ s, (applyW d.last (keepW keep torn tornS 0 d.wait))[i]? = some s → Dsk.readE { d with last := applyW d.last (keepW keep torn tornS 0 d.wait), wait := [], off := false } i = if s.bytes.isNone then 9 else 0 := by
    intro s hs
    unfold Dsk.readE
    have hh : Dsk.has { d with last := applyW d.last (keepW keep torn tornS 0 d.wait), wait := [], off := false } i = true := by simp [Dsk.has, applyW_length]; omega
    rw [hh, if_neg (by decide), if_neg (by simp), Int.toNat_natCast]
    have ht : (Dsk.told { d with last := applyW d.last (keepW keep torn tornS 0 d.wait), wait := [], off := false })[i]? = some s := hs
    rw [ht]
  refine ⟨?_, fun hlt => ?_⟩
  · rw [hr _ hget]
    by_cases hb : ((lastW (keepW keep torn tornS 0 d.wait) i).getD d.last[i]).bytes.isNone = true
    · exact .inr (if_pos hb)
    · exact .inl (if_neg hb)
  · obtain ⟨x, hx | hx⟩ := h.at_ i hi
    · obtain ⟨h1, h2, r, h3⟩ := hx
      rw [hv] at h1
      injection h1 with h1
      have hn : lastW (keepW keep torn tornS 0 d.wait) i = none := lastW_none fun z hz e => by
        obtain ⟨y, hy, hyz⟩ := keepW_sect hz
        have key : ∀ (m : List (Nat × Sect)), (∃ z ∈ m, z.1 = i) → lastW m i ≠ none := by
          intro m
          induction m with
          | nil => rintro ⟨_, h, _⟩; cases h
          | cons u m ih =>
            rintro ⟨z, hz, hzi⟩
            rw [lastW]
            cases hm : lastW m i with
            | some b => simp
            | none =>
              rcases List.mem_cons.1 hz with rfl | hz
              · simp [hzi]
              · exact absurd hm (ih ⟨z, hz, hzi⟩)
        exact key d.wait ⟨y, hy, hyz.trans e⟩ h2
      rw [hn, Option.getD_none] at hget
      rw [List.getElem?_eq_getElem hl] at h3
      injection h3 with h3
      rw [h3] at hget
      have hz := hr _ hget
      refine ⟨hz, x, h1, ?_⟩
      unfold DiskP.Dsk.readL
      rw [hz]
      show (if (0 : Int) = 0 then _ else _) = _
      rw [if_pos rfl, Int.toNat_natCast]
      unfold Dsk.readB
      have ht : (Dsk.told { d with last := applyW d.last (keepW keep torn tornS 0 d.wait), wait := [], off := false })[i]? = some ⟨some (List.replicate 16 x), r⟩ := hget
      rw [ht]
      rfl
    · obtain ⟨h1, _⟩ := hx
      rw [hv] at h1
      injection h1 with h1
      omega
end Go.Proofs.Ytmemkoiooanhkaa
