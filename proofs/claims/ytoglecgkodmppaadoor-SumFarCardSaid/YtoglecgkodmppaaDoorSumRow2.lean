/-
  How an argument that is an array of three uint32 is opened.
-/
import Derived.Test.YtoglecgkodmppaaDoorSumRow
import Derived.Lib.SmallJoins
namespace Go.Proofs.YtoglecgkodmppaaDoor
open Go.ChangeShapes Go.WideShapes Go.ChangeAt Go.RowKit SumP
theorem cellsArr3 : Tryd.prog.cellsOf 34 = 3 := by kernel_rfl
theorem open_arr3 {H : Type} {enc : TypeId × Value → H} {W : World} {v : Value} {d : DataW H} {p : List MemPlace} {base : Nat}
    (hv : Value.okWide Tryd.prog W .any base 34 v) (h : DataW.Trod enc Tryd.prog W 0 (fun _ => true) true 34 v d p) :
    ∃ a b c : BitVec 32, v = .agg #[.int .u32 (U a), .int .u32 (U b), .int .u32 (U c)] := by
  simp only [Value.okWide, Tryd.underlying34] at hv
  obtain ⟨cs, rfl, hsz, _⟩ := hv
  rw [cellsArr3] at hsz
  obtain ⟨c0, c1, c2, rfl⟩ := Joins.array3 hsz
  obtain ⟨fuel, hf⟩ := h
  obtain ⟨xs, m, _, _, _, hl, hx⟩ := DataW.trod_array Tryd.underlying34 hf
  rw [cellsU32] at hx
  have key : ∀ (i : Nat) (hi : i < 3), ∃ s : BitVec 32, ([c0, c1, c2] : List Value)[i]'(by simpa using hi) = .int .u32 (U s) := by
    intro i hi
    have h1 := hx i hi
    have hxs : xs[i]? = some (xs[i]'(by omega)) := List.getElem?_eq_getElem (by omega)
    rw [hxs] at h1
    obtain ⟨a, e0, _, wa⟩ := DataW.trod_int Tryd.underlying23 h1
    obtain ⟨s, rfl⟩ := u32_of wa
    refine ⟨s, ?_⟩
    have hi' : i = 0 ∨ i = 1 ∨ i = 2 := by omega
    rcases hi' with rfl | rfl | rfl <;> simpa [Value.cells] using e0
  obtain ⟨a, ha⟩ := key 0 (by omega)
  obtain ⟨b, hb⟩ := key 1 (by omega)
  obtain ⟨c, hc⟩ := key 2 (by omega)
  exact ⟨a, b, c, by simp at ha hb hc; rw [ha, hb, hc]⟩
end Go.Proofs.YtoglecgkodmppaaDoor
