/-
  How lines of purges lie in memory: rows of three cells, a row of texts behind each.
-/
import Derived.Test.YtdcjljlppeighaaDoorPurgePlain
import Derived.Test.YtdcjljlppeighaaDoorMem3
import Derived.Test.YtdcjljlppeighaaDoorStr
import Derived.Test.YtdcjljlppeighaaDoorKept
namespace Go.Proofs.YtdcjljlppeighaaDoor
open Go.RowKit PurgeP

/-- Texts' cells. -/
def cS (l : List Txt) : List Value := l.map fun t => .string (bstr t)
theorem cS_len (l : List Txt) : (cS l).length = l.length := by simp [cS]
theorem cS_get {l : List Txt} {k : Nat} (h : k < (cS l).length) : (cS l)[k] = .string (bstr (l[k]'(by rwa [cS_len] at h))) := by simp [cS]
theorem cS_getD (l : List Txt) (k : Nat) (h : k < l.length) : (cS l)[k]? = some (.string (bstr (l.getD k []))) := by
  unfold cS
  rw [List.getElem?_map, List.getD_eq_getElem?_getD, List.getElem?_eq_getElem h]
  rfl
theorem cS_append (a b : List Txt) : cS (a ++ b) = cS a ++ cS b := by simp [cS]
theorem cS_one (l : List Txt) : ∀ u ∈ cS l, u.oneCell' = true := by
  intro u hu; simp only [cS, List.mem_map] at hu; obtain ⟨c, _, rfl⟩ := hu; rfl
theorem cS_take (l : List Txt) (k : Nat) : (cS l).take k = cS (l.take k) := by simp [cS]
theorem cS_drop (l : List Txt) (k : Nat) : (cS l).drop k = cS (l.drop k) := by simp [cS]
/-- A line, as its three cells say it. -/
structure LnR where
  no : Int
  A : Option Addr
  cap : Nat
  keys : List Txt
  hard : Bool
def LnR.cells (r : LnR) : List Value := [.int .i64 r.no, .slice r.A r.keys.length r.cap, .bool r.hard]
def LnR.abs (r : LnR) : Ln := ⟨r.no, r.keys, r.hard⟩
def lC (l : List LnR) : List Value := l.flatMap LnR.cells
theorem lC_len (l : List LnR) : (lC l).length = l.length * 3 := by
  unfold lC
  induction l with
  | nil => rfl
  | cons r l ih => simp only [List.flatMap_cons, List.length_append, ih]; simp [LnR.cells]; omega
theorem lC_append (a b : List LnR) : lC (a ++ b) = lC a ++ lC b := by simp [lC]
theorem lC_cons (r : LnR) (b : List LnR) : lC (r :: b) = r.cells ++ lC b := by simp [lC]
theorem lC_get (l : List LnR) (i k : Nat) (hk : k < 3) : (lC l)[i * 3 + k]? = (l[i]?).bind (·.cells[k]?) := by
  induction l generalizing i with
  | nil => simp [lC]
  | cons r l ih =>
    rw [lC_cons]
    cases i with
    | zero => rw [List.getElem?_append_left (by simp [LnR.cells]; omega)]; simp
    | succ i =>
      rw [List.getElem?_append_right (by simp [LnR.cells]; omega)]
      have e : (i + 1) * 3 + k - r.cells.length = i * 3 + k := by simp [LnR.cells]; omega
      rw [e, ih]
      simp
theorem lC_one (l : List LnR) : ∀ u ∈ lC l, u.oneCell' = true := by
  intro u hu
  simp only [lC, List.mem_flatMap, LnR.cells] at hu
  obtain ⟨r, _, hu⟩ := hu
  simp at hu
  rcases hu with rfl | rfl | rfl <;> rfl
theorem lC_drop (l : List LnR) (k : Nat) : (lC l).drop (k * 3) = lC (l.drop k) := by
  induction l generalizing k with
  | nil => simp [lC]
  | cons r l ih =>
    cases k with
    | zero => simp
    | succ k =>
      rw [lC_cons, List.drop_append, List.drop_succ_cons]
      have e : (k + 1) * 3 - r.cells.length = k * 3 := by simp [LnR.cells]; omega
      rw [e, ih, List.drop_eq_nil_of_le (by simp [LnR.cells]; omega), List.nil_append]
end Go.Proofs.YtdcjljlppeighaaDoor
