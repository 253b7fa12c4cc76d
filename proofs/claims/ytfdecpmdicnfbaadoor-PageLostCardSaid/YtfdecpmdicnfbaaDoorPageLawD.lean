/-
  Plain laws of a disk: what is told behind a bit that was turned; PageRots in plain words.
-/
import Derived.Test.YtfdecpmdicnfbaaDoorPageLawC
namespace Go.Proofs.YtfdecpmdicnfbaaDoor.PageP
open DiskP

theorem lastIdx_firsts {α β : Type} (ws : List (Nat × α)) (vs : List (Nat × β)) (h : ws.map (·.1) = vs.map (·.1)) (n : Nat) : lastIdx ws n = lastIdx vs n := by
  have e1 := lastIdx_map (fun _ : α => ()) ws n
  have e2 := lastIdx_map (fun _ : β => ()) vs n
  have e3 : (ws.map fun x => (x.1, ())) = (vs.map fun x => (x.1, ())) := by
    have a1 : (ws.map fun x => (x.1, ())) = (ws.map (·.1)).map fun n => (n, ()) := by rw [List.map_map]; rfl
    have a2 : (vs.map fun x => (x.1, ())) = (vs.map (·.1)).map fun n => (n, ()) := by rw [List.map_map]; rfl
    rw [a1, a2, h]
  rw [← e1, ← e2, e3]
theorem rotted_len (d : Dsk) (n bit : Nat) : (d.rotted n bit).last.length = d.last.length := by
  unfold Dsk.rotted
  cases lastIdx d.wait n with
  | some i => rfl
  | none => simp
theorem rotted_size (d : Dsk) (n bit : Nat) : (d.rotted n bit).size = d.size ∧ (d.rotted n bit).off = d.off := by
  unfold Dsk.rotted
  cases lastIdx d.wait n with
  | some i => exact ⟨rfl, rfl⟩
  | none => exact ⟨rfl, rfl⟩
theorem told_get (d : Dsk) (m : Nat) (h : m < d.last.length) : d.told[m]? = some ((lastW d.wait m).getD d.last[m]) := applyW_get _ _ _ h
theorem told_rotted (d : Dsk) (n bit m : Nat) (hn : n < d.last.length) (hm : m < d.last.length) : (d.rotted n bit).told[m]? = if m = n then (d.told[n]?).map (Sect.turn · bit) else d.told[m]? := by
  rw [told_get d n hn, told_get d m hm]
  cases hi : lastIdx d.wait n with
  | some i =>
    have hrot : d.rotted n bit = { d with wait := d.wait.modify i fun x => (x.1, x.2.turn bit) } := by unfold Dsk.rotted; rw [hi]
    rw [hrot, told_get { d with wait := d.wait.modify i fun x => (x.1, x.2.turn bit) } m hm]
    simp only
    have hfst : (d.wait.modify i fun x => (x.1, x.2.turn bit)).map (·.1) = d.wait.map (·.1) := by
      apply List.ext_getElem?
      intro k
      rw [List.getElem?_map, List.getElem?_map, List.getElem?_modify]
      cases d.wait[k]? with
      | none => rfl
      | some x => by_cases hk : i = k <;> simp [hk]
    obtain ⟨y, hy⟩ := lastIdx_lt hi
    by_cases he : m = n
    · subst he
      rw [if_pos rfl, lastW_idx, lastIdx_firsts _ _ hfst, hi, lastW_idx d.wait, hi]
      simp only [Option.bind_some, List.getElem?_modify, hy, if_pos, Option.map_some, Option.getD_some]
      rfl
    · rw [if_neg he, lastW_idx, lastIdx_firsts _ _ hfst, lastW_idx d.wait]
      cases hk : lastIdx d.wait m with
      | none => rfl
      | some k =>
        obtain ⟨z, hz⟩ := lastIdx_lt hk
        have hne : i ≠ k := by
          rintro rfl
          rw [hy] at hz
          injection hz with hz
          injection hz with hz _
          exact he hz.symm
        simp only [Option.bind_some, List.getElem?_modify, if_neg hne, hz, Option.map_some]
        rfl
  | none =>
    have hrot : d.rotted n bit = { d with last := d.last.modify n (Sect.turn · bit) } := by unfold Dsk.rotted; rw [hi]
    rw [hrot, told_get { d with last := d.last.modify n (Sect.turn · bit) } m (by simpa using hm)]
    simp only
    have hw : lastW d.wait n = none := by rw [lastW_idx, hi]; rfl
    by_cases he : m = n
    · subst he
      rw [if_pos rfl, hw]
      simp only [Option.getD_none, List.getElem_modify, if_pos, Option.map_some]
    · rw [if_neg he]
      congr 2
      rw [List.getElem_modify, if_neg (fun e => he e.symm)]
/-- A record stands there, with a bit turned in some of its sectors. -/
structure Rots (d : Dsk) (a : Nat) (kind : UInt8) (mark : Int) (b : List UInt8) (nn : Nat) (T : Nat → Bool) : Prop where
  told : ∀ i, i < nn → ∃ r bit, bit < 8 * d.size ∧ d.told[a + i]? = some ⟨some (if T i then turnBit (sect d.size kind mark (b.drop (i * (d.size - 18))) (i == 0)) bit else sect d.size kind mark (b.drop (i * (d.size - 18))) (i == 0)), r⟩
  on : d.off = false
  len : a + nn ≤ d.last.length
theorem Rots.put (d : Dsk) (a : Nat) (kind : UInt8) (mark : Int) (b : List UInt8) (nn : Nat) (ha : a + nn ≤ d.last.length) (ho : d.off = false) (h19 : 19 ≤ d.size) : Rots (putD d a kind mark b nn) a kind mark b nn (fun _ => false) where
  told := fun i hi => ⟨false, 0, by show 0 < 8 * d.size; omega, told_put d a kind mark b nn i hi ha⟩
  on := ho
  len := ha
/-- One bit more, of a sector that was not turned yet. -/
theorem Rots.turn {d : Dsk} {a : Nat} {kind : UInt8} {mark : Int} {b : List UInt8} {nn : Nat} {T : Nat → Bool} (h : Rots d a kind mark b nn T) (j bit : Nat) (hj : j < nn) (hT : T j = false) (hb : bit < 8 * d.size) :
    Rots (d.rotted (a + j) bit) a kind mark b nn (fun i => if i = j then true else T i) := by
  obtain ⟨s1, s2⟩ := rotted_size d (a + j) bit
  have hl := h.len
  refine ⟨fun i hi => ?_, s2.trans h.on, by rw [rotted_len]; exact hl⟩
  rw [s1, told_rotted d (a + j) bit (a + i) (by omega) (by omega)]
  obtain ⟨r, bi, hbi, ht⟩ := h.told i hi
  by_cases he : i = j
  · subst he
    rw [if_pos rfl, ht, hT]
    refine ⟨true, bit, hb, ?_⟩
    simp [Sect.turn]
  · rw [if_neg (by omega), ht]
    refine ⟨r, bi, hbi, ?_⟩
    simp only [if_neg he]
theorem Rots.get {d : Dsk} {a : Nat} {kind : UInt8} {mark : Int} {b : List UInt8} {nn : Nat} {T : Nat → Bool} (h : Rots d a kind mark b nn T) (hk : kind ≠ 0) (h1 : -9223372036854775808 ≤ mark) (h2 : mark ≤ 9223372036854775807)
    (hn : need d.size b.length = (nn : Int)) (hn1 : 1 ≤ nn) : ((getR d a).1 = 0 ↔ ∀ i, i < nn → T i = false) := by
  obtain ⟨q1, q2, q3, q4⟩ := need_pos (size := d.size) (bytes := b.length) (by omega)
  obtain ⟨mm, e1, e2, e3, e4⟩ := need_nat d.size b.length (by omega)
  have : mm = nn := by omega
  subst this
  constructor
  · intro hg i hi
    -- the first that was turned
    cases hTi : T i with
    | false => rfl
    | true =>
      exfalso
      have ex : ∃ j, j < mm ∧ T j = true ∧ ∀ k, k < j → T k = false := by
        have : ∀ n, n < mm → T n = true → ∃ j, j ≤ n ∧ T j = true ∧ ∀ k, k < j → T k = false := by
          intro n
          induction n using Nat.strongRecOn with
          | _ n ih =>
            intro hn hT
            by_cases hall : ∀ k, k < n → T k = false
            · exact ⟨n, Nat.le_refl _, hT, hall⟩
            · obtain ⟨k, hk⟩ := Classical.not_forall.1 hall
              obtain ⟨hk1, hk2⟩ := Classical.not_imp.1 hk
              obtain ⟨j, j1, j2, j3⟩ := ih k hk1 (by omega) (by simpa using hk2)
              exact ⟨j, by omega, j2, j3⟩
        obtain ⟨j, j1, j2, j3⟩ := this i hi hTi
        exact ⟨j, by omega, j2, j3⟩
      obtain ⟨j, j1, j2, j3⟩ := ex
      have hS : ∀ i, i < j → ∃ r, d.told[a + i]? = some ⟨some (sect d.size kind mark (b.drop (i * (d.size - 18))) (i == 0)), r⟩ := by
        intro i hi
        obtain ⟨r, bi, _, ht⟩ := h.told i (by omega)
        rw [j3 i hi] at ht
        exact ⟨r, ht⟩
      obtain ⟨r, bit, hbit, ht⟩ := h.told j j1
      rw [j2, if_pos rfl] at ht
      obtain ⟨f1, f2⟩ := read_told d (a + j) _ r ht h.on
      rw [show ((a + j : Nat) : Int) = (a : Int) + (j : Int) by omega] at f1 f2
      have hbad := get_broken d a kind mark b mm j (by omega) hk (by omega) h1 h2 h.on hS j1 e3 (.inr (.inl (by rw [f2]; exact rd_sect_turned d.size kind mark _ _ (by omega) bit hbit))) j 0 (d.last.length - a) ⟨0, 0, 0, false, []⟩ rfl (by omega) (fun h => absurd h (by omega))
      rw [Nat.zero_mul, List.take_zero] at hbad
      apply hbad
      unfold getR at hg
      have hl := h.len
      rw [if_neg (by unfold Dsk.has; simp; omega), Int.toNat_natCast] at hg
      exact hg
  · intro hall
    rw [getR_stands d a kind mark b mm hk h1 h2 h.on e1 e2 h.len (fun i hi => by
      obtain ⟨r, bi, _, ht⟩ := h.told i hi
      rw [hall i hi] at ht
      exact ⟨r, ht⟩)]
end Go.Proofs.YtfdecpmdicnfbaaDoor.PageP
