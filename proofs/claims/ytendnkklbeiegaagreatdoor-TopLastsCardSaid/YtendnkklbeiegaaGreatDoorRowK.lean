/-
  Rows of things of several cells: their cells, one behind another; a row of the call's own, sorted by the library.
-/
import Derived.Test.YtendnkklbeiegaaGreatDoorMem3
import Derived.Test.YtendnkklbeiegaaGreatDoorMAI
import Derived.Shelf.SlSortCmp.KitK
import Derived.Maps.Range
namespace Go.Proofs.YtendnkklbeiegaaGreatDoor
open Go.RowKit

/-- Things' cells. -/
def flK {α : Type} (c : α → List Value) (l : List α) : List Value := l.flatMap c
section
variable {α : Type} {c : α → List Value} {k : Nat}
theorem flK_len (hc : ∀ a, (c a).length = k) (l : List α) : (flK c l).length = l.length * k := by
  unfold flK
  induction l with
  | nil => simp
  | cons a l ih => rw [List.flatMap_cons, List.length_append, hc, ih, List.length_cons, Nat.succ_mul, Nat.add_comm]
theorem flK_append (c : α → List Value) (a b : List α) : flK c (a ++ b) = flK c a ++ flK c b := by simp [flK]
theorem flK_cons (c : α → List Value) (a : α) (b : List α) : flK c (a :: b) = c a ++ flK c b := by simp [flK]
theorem flK_one (c : α → List Value) (a : α) : flK c [a] = c a := by simp [flK]
theorem flK_get (hc : ∀ a, (c a).length = k) (l : List α) (i j : Nat) (hj : j < k) : (flK c l)[i * k + j]? = (l[i]?).bind fun a => (c a)[j]? := by
  induction l generalizing i with
  | nil => simp [flK]
  | cons a l ih =>
    rw [flK_cons]
    cases i with
    | zero => rw [List.getElem?_append_left (by rw [hc]; omega)]; simp
    | succ i =>
      rw [List.getElem?_append_right (by rw [hc, Nat.succ_mul]; omega), hc]
      have e : (i + 1) * k + j - k = i * k + j := by rw [Nat.succ_mul]; omega
      rw [e, ih]
      simp
theorem flK_at (hc : ∀ a, (c a).length = k) {l : List α} {i : Nat} (hi : i < l.length) {j : Nat} (hj : j < k) : (flK c l)[i * k + j]? = (c l[i])[j]? := by
  rw [flK_get hc l i j hj, List.getElem?_eq_getElem hi]
  rfl
/-- The library's word for a row's cells. -/
theorem flatK_eq [Inhabited α] (hc : ∀ a, (c a).length = k) (d : List α) (t : Nat) (ht : t < d.length * k) : (Sort.flatK c k d.toArray)[t]! = (flK c d)[t]'(by rw [flK_len hc]; exact ht) := by
  have hk : 0 < k := by
    rcases Nat.eq_zero_or_pos k with h | h
    · subst h; simp at ht
    · exact h
  have hq : t / k < d.length := (Nat.div_lt_iff_lt_mul hk).2 ht
  have hm : t % k < k := Nat.mod_lt _ hk
  rw [Sort.get_flatK c k d.toArray t (by simpa using ht)]
  have h1 : d.toArray[t / k]! = d[t / k] := by simp [hq]
  have h2 := flK_at hc (l := d) hq hm
  rw [Nat.div_add_mod'] at h2
  rw [h1]
  have h3 : t % k < (c d[t / k]).length := by rw [hc]; exact hm
  rw [List.getElem?_eq_getElem h3, List.getElem?_eq_getElem (by rw [flK_len hc]; exact ht)] at h2
  rw [getElem!_pos (c d[t / k]) (t % k) h3]
  exact (Option.some.inj h2).symm
theorem holdsK_own [Inhabited α] (hc : ∀ a, (c a).length = k) {w : World} {g : Nat} {e : TypeId} {cur : Array Value} {d : List α} (hb : w.heap[g]? = some (.cells cur e (0, 0))) (ht : cur.toList.take (d.length * k) = flK c d) : Sort.HoldsK c k w g 0 d.toArray := by
  intro t h0
  have h : t < d.length * k := by simpa using h0
  refine ⟨?_, frozen_of_row w g (0 + t) cur e hb⟩
  rw [flatK_eq hc d t h, cell_of_row w g (0 + t) cur e (0, 0) hb, Nat.zero_add, ← Array.getElem?_toList]
  have h1 : (cur.toList.take (d.length * k))[t]? = (flK c d)[t]? := by rw [ht]
  have hl : t < (flK c d).length := by rw [flK_len hc]; exact h
  rw [List.getElem?_take_of_lt h, List.getElem?_eq_getElem hl] at h1
  exact h1
theorem heap_sortedK [Inhabited α] (c : α → List Value) (k : Nat) {w : World} {g n : Nat} {os : Array Obj} {cur : Array Value} {e : TypeId} {fr : Nat × Nat} (d : Array α) (hb : w.heap[g]? = some (.cells cur e fr)) :
    (sortWorldK c k w g 0 n d os).heap[g]? = some (.cells (Sort.putCells id 0 (Sort.flatK c k d) cur) e fr) := by
  have hg : g < w.heap.size := lt_of_block hb
  unfold sortWorldK
  rw [Sort.heap_grow_old _ _ (by rw [Sort.size_putRowK]; exact hg)]
  simp [Sort.putRowK, Sort.putRow, Sort.mapBlock, Sort.ahead, Array.getElem?_modify, hb, Sort.onCells]
theorem grown_sortedK [Inhabited α] (c : α → List Value) (k : Nat) (w : World) (g n : Nat) (os : Array Obj) (d : Array α) : w.grownBy (sortWorldK c k w g 0 n d os) (some g) := by
  refine ⟨rfl, rfl, rfl, ?_, fun j hj hne => ?_⟩
  · unfold sortWorldK
    simp [Sort.putRowK]
  · unfold sortWorldK
    rw [Sort.heap_grow_old _ _ (by rw [Sort.size_putRowK]; exact hj)]
    have : g ≠ j := fun e => hne (by rw [e])
    simp [Sort.putRowK, Sort.putRow, Sort.mapBlock, Sort.ahead, Array.getElem?_modify, this]
/-- Behind the sort the same slice owns the sorted list. -/
theorem own_sortedK [Inhabited α] (hc : ∀ a, (c a).length = k) {w : World} {base g cap n : Nat} {e : TypeId} {os : Array Obj} {d d' : List α} (hl : d'.length = d.length) (h : w.ownsRow base e k (.slice (some ⟨g, 0, none⟩) d.length cap) d.length (flK c d)) :
    (sortWorldK c k w g 0 n d'.toArray os).ownsRow base e k (.slice (some ⟨g, 0, none⟩) d.length cap) d.length (flK c d') := by
  refine ⟨by rw [flK_len hc, hl], ?_⟩
  rcases h.2 with ⟨h0, _⟩ | ⟨g', cap', cur, hv, h1, h2, h3, h4, h5, _⟩
  · cases h0
  injection hv with hA _ hcp
  injection hA with hA
  injection hA with hA
  subst hA
  subst hcp
  refine .inr ⟨g, cap, _, rfl, h1, heap_sortedK c k d'.toArray h2, h3, h4, by simp [Sort.putCells, h5], ?_⟩
  have hle : d.length * k ≤ cap * k := Nat.mul_le_mul_right k h3
  apply List.ext_getElem?
  intro j
  by_cases hj : j < d.length * k
  · have hj2 : j < d'.length * k := by rw [hl]; exact hj
    rw [List.getElem?_take_of_lt hj, Array.getElem?_toList, List.getElem?_eq_getElem (by rw [flK_len hc]; exact hj2), ← flatK_eq hc d' j hj2]
    have hjc : j < cur.size := by rw [h5]; omega
    simp [Sort.putCells, hjc, hj2]
  · rw [List.getElem?_take_eq_none (by omega), List.getElem?_eq_none (by rw [flK_len hc, hl]; omega)]
theorem perm_of_permIn [Inhabited α] {d : List α} {d' : Array α} (h : Sort.PermIn 0 d.toArray.size d.toArray d') : d'.toList.Perm d := by
  obtain ⟨h1, _, h3⟩ := h
  have e1 : (d'.extract 0 d.toArray.size) = d' := by rw [← h1]; simp
  have e2 : (d.toArray.extract 0 d.toArray.size) = d.toArray := by simp
  rw [e1, e2] at h3
  simpa using h3
end
end Go.Proofs.YtendnkklbeiegaaGreatDoor
