/-
  Pairs and triples of numbers that come in, opened.
-/
import Derived.Test.YtdcjljlppeighaaDoorPurgeRow
namespace Go.Proofs.YtdcjljlppeighaaDoor
open Go.ChangeShapes Go.WideShapes Go.ChangeAt Go.RowKit PurgeP

set_option maxRecDepth 100000 in
theorem open_arr2 {H : Type} {enc : TypeId × Value → H} {W : World} {v : Value} {d : DataW H} {p : List MemPlace} {base : Nat}
    (hv : Value.okWide Tryd.prog W .any base 39 v) (h : DataW.Trod enc Tryd.prog W 0 (fun _ => true) true 39 v d p) :
    ∃ a b : Int, v = .agg #[.int .i64 a, .int .i64 b] ∧ -9223372036854775808 ≤ a ∧ a ≤ 9223372036854775807 ∧ -9223372036854775808 ≤ b ∧ b ≤ 9223372036854775807 := by
  simp only [Value.okWide, Tryd.underlying39] at hv
  obtain ⟨cs, rfl, hsz, _⟩ := hv
  rw [show Tryd.prog.cellsOf 39 = 2 by kernel_rfl] at hsz
  obtain ⟨c0, c1, rfl⟩ : ∃ c0 c1, cs = #[c0, c1] := by
    obtain ⟨l⟩ := cs
    match l, hsz with
    | [c0, c1], _ => exact ⟨c0, c1, rfl⟩
  obtain ⟨fuel, hf⟩ := h
  obtain ⟨xs, m, rfl, _, _, hl, hf⟩ := DataW.trod_array Tryd.underlying39 hf
  have c_int64 : Tryd.prog.cellsOf 2 = 1 := by kernel_rfl
  have f0 := hf 0 (by omega)
  rw [c_int64, List.getElem?_eq_getElem (by omega)] at f0
  replace f0 : DataW.trod enc Tryd.prog W 0 (fun _ => true) true m 2 [c0] = some _ := f0
  obtain ⟨a, e0, _, w0⟩ := DataW.trod_int Tryd.underlying2 f0
  simp at e0
  have f1 := hf 1 (by omega)
  rw [c_int64, List.getElem?_eq_getElem (by omega)] at f1
  replace f1 : DataW.trod enc Tryd.prog W 0 (fun _ => true) true m 2 [c1] = some _ := f1
  obtain ⟨b, e1, _, w1⟩ := DataW.trod_int Tryd.underlying2 f1
  simp at e1
  subst e0 e1
  exact ⟨a, b, rfl, (i64_of w0).1, (i64_of w0).2, (i64_of w1).1, (i64_of w1).2⟩
set_option maxRecDepth 100000 in
theorem open_arr3 {H : Type} {enc : TypeId × Value → H} {W : World} {v : Value} {d : DataW H} {p : List MemPlace} {base : Nat}
    (hv : Value.okWide Tryd.prog W .any base 46 v) (h : DataW.Trod enc Tryd.prog W 0 (fun _ => true) true 46 v d p) :
    ∃ a b c : Int, v = .agg #[.int .i64 a, .int .i64 b, .int .i64 c] ∧ -9223372036854775808 ≤ a ∧ a ≤ 9223372036854775807 ∧ -9223372036854775808 ≤ b ∧ b ≤ 9223372036854775807 ∧ -9223372036854775808 ≤ c ∧ c ≤ 9223372036854775807 := by
  simp only [Value.okWide, Tryd.underlying46] at hv
  obtain ⟨cs, rfl, hsz, _⟩ := hv
  rw [show Tryd.prog.cellsOf 46 = 3 by kernel_rfl] at hsz
  obtain ⟨c0, c1, c2, rfl⟩ : ∃ c0 c1 c2, cs = #[c0, c1, c2] := by
    obtain ⟨l⟩ := cs
    match l, hsz with
    | [c0, c1, c2], _ => exact ⟨c0, c1, c2, rfl⟩
  obtain ⟨fuel, hf⟩ := h
  obtain ⟨xs, m, rfl, _, _, hl, hf⟩ := DataW.trod_array Tryd.underlying46 hf
  have c_int64 : Tryd.prog.cellsOf 2 = 1 := by kernel_rfl
  have f0 := hf 0 (by omega)
  rw [c_int64, List.getElem?_eq_getElem (by omega)] at f0
  replace f0 : DataW.trod enc Tryd.prog W 0 (fun _ => true) true m 2 [c0] = some _ := f0
  obtain ⟨a, e0, _, w0⟩ := DataW.trod_int Tryd.underlying2 f0
  simp at e0
  have f1 := hf 1 (by omega)
  rw [c_int64, List.getElem?_eq_getElem (by omega)] at f1
  replace f1 : DataW.trod enc Tryd.prog W 0 (fun _ => true) true m 2 [c1] = some _ := f1
  obtain ⟨b, e1, _, w1⟩ := DataW.trod_int Tryd.underlying2 f1
  simp at e1
  have f2 := hf 2 (by omega)
  rw [c_int64, List.getElem?_eq_getElem (by omega)] at f2
  replace f2 : DataW.trod enc Tryd.prog W 0 (fun _ => true) true m 2 [c2] = some _ := f2
  obtain ⟨c, e2, _, w2⟩ := DataW.trod_int Tryd.underlying2 f2
  simp at e2
  subst e0 e1 e2
  exact ⟨a, b, c, rfl, (i64_of w0).1, (i64_of w0).2, (i64_of w1).1, (i64_of w1).2, (i64_of w2).1, (i64_of w2).2⟩
end Go.Proofs.YtdcjljlppeighaaDoor
