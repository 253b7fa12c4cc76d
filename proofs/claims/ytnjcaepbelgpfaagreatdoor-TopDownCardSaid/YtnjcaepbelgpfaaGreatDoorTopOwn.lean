/-
  Who has an object, in plain Lean: the names met in a cycle, each once.
-/
namespace Go.Proofs.YtnjcaepbelgpfaaGreatDoor.TopP

section
variable {α : Type} [DecidableEq α] [Inhabited α]
/-- What is met from index i on, in a cycle, each once, at most m. -/
def ownGo (l : List α) (first m : Nat) : Nat → Nat → List α → List α
  | 0, _, out => out
  | r + 1, i, out => if m ≤ out.length then out else ownGo l first m r (i + 1) (if l.getD ((first + i) % l.length) default ∈ out then out else out ++ [l.getD ((first + i) % l.length) default])
def ownersL (l : List α) (first m : Nat) : List α := ownGo l first m l.length 0 []
omit [DecidableEq α] [Inhabited α] in
theorem nodup_snoc {out : List α} {x : α} (h : out.Nodup) (hx : x ∉ out) : (out ++ [x]).Nodup := by
  rw [List.nodup_append]
  exact ⟨h, by simp, fun a ha b hb e => by rw [List.mem_singleton] at hb; subst hb; subst e; exact hx ha⟩
theorem ownGo_nodup (l : List α) (first m : Nat) : ∀ (r i : Nat) (out : List α), out.Nodup → (ownGo l first m r i out).Nodup
  | 0, _, _, h => h
  | r + 1, i, out, h => by
    unfold ownGo
    split
    · exact h
    · refine ownGo_nodup l first m r (i + 1) _ ?_
      split
      · exact h
      · rename_i hx
        exact nodup_snoc h hx
omit [DecidableEq α] in
theorem getD_mem {l : List α} {k : Nat} (h : 0 < l.length) : l.getD (k % l.length) default ∈ l := by
  have hk : k % l.length < l.length := Nat.mod_lt _ h
  rw [List.getD_eq_getElem?_getD, List.getElem?_eq_getElem hk]
  exact List.getElem_mem hk
theorem ownGo_sub (l : List α) (first m : Nat) (h0 : 0 < l.length) : ∀ (r i : Nat) (out : List α), (∀ x ∈ out, x ∈ l) → ∀ x ∈ ownGo l first m r i out, x ∈ l
  | 0, _, _, h => h
  | r + 1, i, out, h => by
    unfold ownGo
    split
    · exact h
    · refine ownGo_sub l first m h0 r (i + 1) _ ?_
      split
      · exact h
      · intro x hx
        rcases List.mem_append.1 hx with hx | hx
        · exact h x hx
        · rw [List.mem_singleton] at hx
          rw [hx]
          exact getD_mem h0
omit [Inhabited α] in
/-- As many without doubles as there are: all of them. -/
theorem all_of_many : ∀ (D out : List α), out.Nodup → (∀ x ∈ out, x ∈ D) → D.length ≤ out.length → ∀ x ∈ D, x ∈ out
  | [], _, _, _, _, x, hx => by cases hx
  | d :: D, out, hn, hs, hl, x, hx => by
    by_cases hd : d ∈ out
    · by_cases hxd : x = d
      · rw [hxd]; exact hd
      · have hx2 : x ∈ D := by
          rcases List.mem_cons.1 hx with h | h
          · exact absurd h hxd
          · exact h
        have hlen : (out.erase d).length = out.length - 1 := List.length_erase_of_mem hd
        have := all_of_many D (out.erase d) (hn.erase d) (fun y hy => by
          have hy2 := (List.Nodup.mem_erase_iff hn).1 hy
          rcases List.mem_cons.1 (hs y hy2.2) with h | h
          · exact absurd h hy2.1
          · exact h) (by rw [hlen]; simp only [List.length_cons] at hl; omega) x hx2
        exact List.mem_of_mem_erase this
    · have hs2 : ∀ y ∈ out, y ∈ D := fun y hy => by
        rcases List.mem_cons.1 (hs y hy) with h | h
        · rw [h] at hy; exact absurd hy hd
        · exact h
      exfalso
      have : ∀ (D out : List α), out.Nodup → (∀ x ∈ out, x ∈ D) → out.length ≤ D.length := by
        intro D
        induction D with
        | nil =>
          intro out _ hs
          cases out with
          | nil => exact Nat.le_refl _
          | cons a _ => have := hs a (by simp); cases this
        | cons d D ih =>
          intro out hn hs
          have h1 := ih (out.erase d) (hn.erase d) (fun y hy => by
            have hy2 := (List.Nodup.mem_erase_iff hn).1 hy
            rcases List.mem_cons.1 (hs y hy2.2) with h | h
            · exact absurd h hy2.1
            · exact h)
          have h2 : out.length ≤ (out.erase d).length + 1 := by
            rw [List.length_erase]
            split <;> omega
          simp only [List.length_cons]
          omega
      have h3 := this D out hn hs2
      simp only [List.length_cons] at hl
      omega
theorem ownGo_all (l : List α) (first m : Nat) (D : List α) (hD : ∀ x ∈ l, x ∈ D) (hm : D.length ≤ m) (h0 : 0 < l.length) : ∀ (r i : Nat) (out : List α), out.Nodup → (∀ x ∈ out, x ∈ l) → (∀ t, t < i → l.getD ((first + t) % l.length) default ∈ out) → ∀ t, t < i + r → l.getD ((first + t) % l.length) default ∈ ownGo l first m r i out
  | 0, i, out, _, _, h => h
  | r + 1, i, out, hn, hs, h => by
    intro t ht
    unfold ownGo
    split
    · rename_i hm2
      exact all_of_many D out hn (fun x hx => hD x (hs x hx)) (Nat.le_trans hm hm2) _ (hD _ (getD_mem h0))
    · refine ownGo_all l first m D hD hm h0 r (i + 1) _ ?_ ?_ ?_ t (by omega)
      · split
        · exact hn
        · rename_i hx; exact nodup_snoc hn hx
      · split
        · exact hs
        · intro x hx
          rcases List.mem_append.1 hx with hx | hx
          · exact hs x hx
          · rw [List.mem_singleton] at hx
            rw [hx]
            exact getD_mem h0
      · intro u hu
        by_cases e : u = i
        · subst e
          split
          · assumption
          · exact List.mem_append.2 (.inr (by simp))
        · have := h u (by omega)
          split
          · exact this
          · exact List.mem_append.2 (.inl this)
/-- All that are there are met, each once. -/
theorem owners_all (l : List α) (first m : Nat) (D : List α) (hD : ∀ x ∈ l, x ∈ D) (hm : D.length ≤ m) : (ownersL l first m).Nodup ∧ ∀ x, x ∈ ownersL l first m ↔ x ∈ l := by
  refine ⟨ownGo_nodup l first m _ _ _ List.nodup_nil, fun x => ?_⟩
  by_cases h0 : 0 < l.length
  · refine ⟨ownGo_sub l first m h0 _ _ _ (fun y hy => by cases hy) x, fun hx => ?_⟩
    obtain ⟨j, hj, e⟩ := List.getElem_of_mem hx
    have H := ownGo_all l first m D hD hm h0 l.length 0 [] List.nodup_nil (fun y hy => by cases hy) (fun t ht => absurd ht (Nat.not_lt_zero _)) ((j + (l.length - first % l.length)) % l.length) (by rw [Nat.zero_add]; exact Nat.mod_lt _ h0)
    have e1 : (first + (j + (l.length - first % l.length)) % l.length) % l.length = j := by
      have hf : first % l.length < l.length := Nat.mod_lt _ h0
      rw [Nat.add_mod, Nat.mod_mod, ← Nat.add_mod]
      have e2 : first = l.length * (first / l.length) + first % l.length := (Nat.div_add_mod first l.length).symm
      have e3 : first + (j + (l.length - first % l.length)) = j + l.length * (first / l.length + 1) := by rw [Nat.mul_add, Nat.mul_one]; omega
      rw [e3, Nat.add_mul_mod_self_left, Nat.mod_eq_of_lt hj]
    rw [e1, List.getD_eq_getElem?_getD, List.getElem?_eq_getElem hj] at H
    rw [← e]
    exact H
  · have : l = [] := List.eq_nil_of_length_eq_zero (by omega)
    subst this
    exact ⟨fun h => by simp [ownersL, ownGo] at h, fun h => by cases h⟩
end
/-- The first that isn't down. -/
def firstUp (down : Int → Bool) (L : List Int) : Option Int := L.find? fun x => !down x
/-- What the law asks of parents: none is down, one is. -/
theorem first_law (L : List Int) (c n g : Int) (hn : L.Nodup) (hm : ∀ x, x ∈ L ↔ c ≤ x ∧ x < n) (hg : c ≤ g ∧ g < n) :
    ∃ x, firstUp (fun _ => false) L = some x ∧ (x ≠ g → firstUp (fun q => decide (q = g)) L = some x) ∧ firstUp (fun q => decide (q = g)) L ≠ some g ∧ ((firstUp (fun q => decide (q = g)) L).isSome = true ↔ 1 < n - c) := by
  have hgL : g ∈ L := (hm g).2 hg
  cases L with
  | nil => cases hgL
  | cons x r =>
    refine ⟨x, by simp [firstUp], fun hx => by simp [firstUp, hx], fun e => ?_, ?_⟩
    · have := List.find?_some e
      simp at this
    · constructor
      · intro h
        obtain ⟨y, hy⟩ := Option.isSome_iff_exists.1 h
        have h1 := List.find?_some hy
        have h2 := (hm y).1 (List.mem_of_find?_eq_some hy)
        simp at h1
        omega
      · intro h
        have : ∃ y, y ≠ g ∧ c ≤ y ∧ y < n := by
          by_cases e : g = c
          · exact ⟨c + 1, by omega, by omega, by omega⟩
          · exact ⟨c, by omega, by omega, by omega⟩
        obtain ⟨y, h1, h2⟩ := this
        have hy := (hm y).2 h2
        unfold firstUp
        rw [List.find?_isSome]
        exact ⟨y, hy, by simp [h1]⟩
end Go.Proofs.YtnjcaepbelgpfaaGreatDoor.TopP
