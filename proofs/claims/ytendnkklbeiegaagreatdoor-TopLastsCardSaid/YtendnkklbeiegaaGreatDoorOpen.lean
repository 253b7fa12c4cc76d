/-
  How an argument that is a slice is opened: the rows of its elements, each with its own reading; bytes, bools, numbers.
-/
import Derived.Test.YtendnkklbeiegaaGreatDoorMAI
import Derived.ProofKit
import Derived.OpenShut
import Derived.ShutString
import Derived.ChangeOld
import Derived.Deep.Slices
namespace Go.Proofs.YtendnkklbeiegaaGreatDoor
open Go.ChangeShapes Go.WideShapes Go.ChangeAt Go.RowKit Go.Deep

section
variable {H : Type} {enc : TypeId × Value → H} {P : Program} {W : World} {sp : Nat → Bool} {v : Value} {x : DataW H × List MemPlace} {fuel : Nat}
theorem flat_get2 {rows : List (List Value)} {k : Nat} (hr : ∀ r ∈ rows, r.length = k) (j : Nat) (hk : 0 < k) : rows.flatten[j]? = (rows[j / k]?).bind (·[j % k]?) := by
  induction rows generalizing j with
  | nil => simp
  | cons r rows ih =>
    have h0 : r.length = k := hr r (by simp)
    rw [List.flatten_cons]
    by_cases hj : j < k
    · rw [List.getElem?_append_left (by omega), Nat.div_eq_of_lt hj, Nat.mod_eq_of_lt hj]
      rfl
    · rw [List.getElem?_append_right (by omega), h0, ih (fun r hr' => hr r (by simp [hr']))]
      have e1 : j / k = (j - k) / k + 1 := by
        have := Nat.add_div_right (j - k) hk
        rw [show j - k + k = j by omega] at this
        exact this
      have e2 : (j - k) % k = j % k := by
        have := Nat.add_mod_right (j - k) k
        rw [show j - k + k = j by omega] at this
        exact this.symm
      rw [e1, e2]; rfl
/-- A slice, opened: its elements' rows of cells, each with its reading. -/
theorem rows_of {t e : TypeId} {k : Nat} (ht : P.underlying t = some (.slice e)) (hk : P.cellsOf e = k) (hpos : 0 < k) (h : DataW.trod enc P W 0 sp true fuel t [v] = some x) :
    ∃ (rows : List (List Value)) (A : Option Addr) (cap : Nat), v = .slice A rows.length cap ∧ rows.length ≤ cap ∧ cap ≤ maxLen ∧ RV W A rows.flatten ∧ (∀ b off, A = some ⟨b, off, none⟩ → rows ≠ [] → b < W.heap.size) ∧
      ∀ r ∈ rows, r.length = k ∧ ∃ n d, DataW.trod enc P W 0 sp true n e r = some d := by
  rcases open_slice ht h with ⟨h0, _⟩ | ⟨a, len, cap, m, n, D, Pl, hcs, hb, hl, hm, hmm, hx, hi⟩
  · simp at h0
    subst h0
    exact ⟨[], none, 0, rfl, Nat.le_refl _, Nat.zero_le _, RV.nil, (fun _ _ h => by cases h), (fun r hr => by cases hr)⟩
  · simp at hcs
    subst hcs
    rw [hk] at hi
    have hlm : len ≤ m := by rw [hmm]; split <;> omega
    obtain ⟨R, hR⟩ := choose_lt (n := len) (p := fun i cs' => W.cells? 0 (a.add (i * k)) k = some cs' ∧ DataW.trod enc P W 0 sp true n e cs' = some (D i, Pl i)) (fun i hil => hi i (by omega))
    have hlen : ((List.range len).map R).length = len := by simp
    have hrl : ∀ r ∈ (List.range len).map R, r.length = k := by
      intro r hr
      simp only [List.mem_map, List.mem_range] at hr
      obtain ⟨i, hil, rfl⟩ := hr
      exact (World.cells?_some (hR i hil).1).2.1
    refine ⟨(List.range len).map R, some a, cap, by rw [hlen], by rw [hlen]; exact hl, hm, ?_, ?_, ?_⟩
    · intro hne
      have hlp : 0 < len := by
        rcases Nat.eq_zero_or_pos len with h0 | h0
        · subst h0; exact absurd rfl hne
        · exact h0
      have hc0 := (World.cells?_some (hR 0 hlp).1).2.2 0 hpos
      obtain ⟨b, off, spot⟩ := a
      have hsome : (R 0)[0]? = some ((R 0)[0]'(by rw [(World.cells?_some (hR 0 hlp).1).2.1]; exact hpos)) := List.getElem?_eq_getElem _
      rw [hsome] at hc0
      have hspot : spot = none := by simpa [Addr.add] using World.cell?_spot hc0
      subst hspot
      have hadd : ∀ j, (⟨b, off, none⟩ : Addr).add j = ⟨b, off + j, none⟩ := by intro j; unfold Addr.add; split <;> simp_all
      refine ⟨b, off, rfl, ?_, fun j u hu => ?_⟩
      · have := block_lt_of_cell hc0
        rw [add_add] at this
        rwa [hadd] at this
      · rw [flat_get2 hrl j hpos] at hu
        have hq : j / k < len := by
          rcases Nat.lt_or_ge (j / k) len with h | h
          · exact h
          · rw [List.getElem?_eq_none (by rw [hlen]; exact h)] at hu; cases hu
        rw [List.getElem?_map, List.getElem?_range hq] at hu
        simp only [Option.map_some, Option.bind_some] at hu
        have hc := (World.cells?_some (hR (j / k) hq).1).2.2 (j % k) (Nat.mod_lt _ hpos)
        rw [add_add, hadd, Nat.div_add_mod' j k] at hc
        rw [hc, hu]
    · intro b off hA hne
      have hlp : 0 < len := by
        rcases Nat.eq_zero_or_pos len with h0 | h0
        · subst h0; exact absurd rfl hne
        · exact h0
      have hc0 := (World.cells?_some (hR 0 hlp).1).2.2 0 hpos
      have hsome : (R 0)[0]? = some ((R 0)[0]'(by rw [(World.cells?_some (hR 0 hlp).1).2.1]; exact hpos)) := List.getElem?_eq_getElem _
      rw [hsome] at hc0
      have := block_lt_of_cell hc0
      rw [add_add] at this
      injection hA with hA
      subst hA
      have hadd : ∀ j, (⟨b, off, none⟩ : Addr).add j = ⟨b, off + j, none⟩ := by intro j; unfold Addr.add; split <;> simp_all
      rwa [hadd] at this
    · intro r hr
      refine ⟨hrl r hr, ?_⟩
      simp only [List.mem_map, List.mem_range] at hr
      obtain ⟨i, hil, rfl⟩ := hr
      exact ⟨n, _, (hR i hil).2⟩
/-- .. where an element is one cell. -/
theorem cells_of {t e : TypeId} (ht : P.underlying t = some (.slice e)) (hk : P.cellsOf e = 1) (h : DataW.trod enc P W 0 sp true fuel t [v] = some x) :
    ∃ (vs : List Value) (A : Option Addr) (cap : Nat), v = .slice A vs.length cap ∧ vs.length ≤ cap ∧ cap ≤ maxLen ∧ RV W A vs ∧ ∀ u ∈ vs, ∃ n d, DataW.trod enc P W 0 sp true n e [u] = some d := by
  obtain ⟨rows, A, cap, rfl, h1, h2, h3, _, h5⟩ := rows_of ht hk (by omega) h
  have e : rows = (rows.flatten).map fun v => [v] := by
    have : ∀ (rows : List (List Value)), (∀ r ∈ rows, r.length = 1) → rows = (rows.flatten).map fun v => [v] := by
      intro rows
      induction rows with
      | nil => intro _; rfl
      | cons r rows ih =>
        intro hr
        have h0 := hr r (by simp)
        obtain ⟨u, rfl⟩ : ∃ u, r = [u] := by
          match r, h0 with
          | [u], _ => exact ⟨u, rfl⟩
        rw [List.flatten_cons, List.map_append, ← ih (fun r hr' => hr r (by simp [hr']))]
        rfl
    exact this rows (fun r hr => (h5 r hr).1)
  have hl : rows.length = rows.flatten.length := by
    have := congrArg List.length e
    rwa [List.length_map] at this
  refine ⟨rows.flatten, A, cap, by rw [hl], by omega, h2, h3, fun u hu => ?_⟩
  have : [u] ∈ rows := by rw [e]; exact List.mem_map.2 ⟨u, hu, rfl⟩
  exact (h5 _ this).2
theorem map_of {α : Type} (f : α → Value) {vs : List Value} (h : ∀ u ∈ vs, ∃ a, u = f a) : ∃ l : List α, vs = l.map f := by
  induction vs with
  | nil => exact ⟨[], rfl⟩
  | cons u vs ih =>
    obtain ⟨a, rfl⟩ := h u (by simp)
    obtain ⟨l, rfl⟩ := ih (fun u hu => h u (by simp [hu]))
    exact ⟨a :: l, rfl⟩
theorem bools_of {t e : TypeId} (ht : P.underlying t = some (.slice e)) (he : P.underlying e = some .bool) (hk : P.cellsOf e = 1) (h : DataW.trod enc P W 0 sp true fuel t [v] = some x) :
    ∃ (l : List Bool) (A : Option Addr) (cap : Nat), v = .slice A l.length cap ∧ l.length ≤ cap ∧ cap ≤ maxLen ∧ RV W A (l.map Value.bool) := by
  obtain ⟨vs, A, cap, rfl, h1, h2, h3, h4⟩ := cells_of ht hk h
  obtain ⟨l, rfl⟩ := map_of Value.bool (vs := vs) (fun u hu => by
    obtain ⟨n, d, hd⟩ := h4 u hu
    obtain ⟨z, hz, _⟩ := DataW.trod_bool he hd
    exact ⟨z, by simpa using hz⟩)
  exact ⟨l, A, cap, by simp, by simpa using h1, h2, h3⟩
/-- A slice's reading, as the openers want it. -/
theorem trod_one {t e : TypeId} {base : Nat} {d : DataW H} {p : List MemPlace} (ht : P.underlying t = some (.slice e)) (hv : Value.okWide P W .any base t v) (h : DataW.Trod enc P W 0 sp true t v d p) :
    ∃ n, DataW.trod enc P W 0 sp true n t [v] = some (d, p) := by
  obtain ⟨a, len, cap, rfl⟩ := okWide_slice ht hv
  exact h
end
end Go.Proofs.YtendnkklbeiegaaGreatDoor
