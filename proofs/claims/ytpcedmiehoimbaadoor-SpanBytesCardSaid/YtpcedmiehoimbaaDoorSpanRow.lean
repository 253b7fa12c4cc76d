/-
  What the rows of the statements on spans share: what the listed variables hold, as the walks want it; how an argument that is a span is opened.
-/
import Derived.Test.YtpcedmiehoimbaaDoorCards
import Derived.Test.YtpcedmiehoimbaaDoorTie
import Derived.Test.YtpcedmiehoimbaaDoorSpanStd
import Derived.ProofKit
import Derived.OpenShut
import Derived.ShutString
import Derived.ChangeOld
import Derived.Deep.DeepHandedRow
import Derived.Deep.DeepWitnessRowRef
import Derived.Lib.LaidTab
import Derived.Lib.SmallJoins
import Derived.Stop.LaidErr
import Derived.Lay
namespace Go.Proofs.YtpcedmiehoimbaaDoor
open Go.ChangeShapes Go.WideShapes Go.ChangeAt Go.RowKit

theorem own : ownKnob Tryd.prog.godebug = none := by kernel_rfl
theorem laidOut : laidOutB Tryd.prog = true := by kernel_rfl
theorem i64_of {x : Int} (h : (Lit.int .i64 x).wf = true) : -9223372036854775808 ≤ x ∧ x ≤ 9223372036854775807 := by
  simpa [Lit.wf, IntKind.min, IntKind.max, IntKind.signed, IntKind.bits] using h
theorem typeErr : ∀ u, Tryd.prog.typeName? 3 u = some "*errors.errorString" → u = 87 := by
  intro u hu
  have star : "*" ++ "errors.errorString" = "*errors.errorString" := by decide
  exact typeName_ptr_named (nm := "errors.errorString") (by rw [star]; kernel_rfl) (by kernel_rfl) (by decide) u (by rw [star]; exact hu)
theorem std_of {W : World} (hL : laidMet Tryd.prog Rows.spanRightRow.laid W) (hs : W.ShapedOpen Tryd.prog) : Std W := by
  have h1 : laidMet Tryd.prog _ W := Go.laidMet.tail (Go.laidMet.tail (show laidMet Tryd.prog [("math/bits.deBruijn32tab", Rows.laid_math_bits_deBruijn32tab), ("math/bits.deBruijn64tab", Rows.laid_math_bits_deBruijn64tab), ("internal/strconv.uint64pow10", Lib.tabData .u64 Lib.pow10Tab), ("strconv.ErrRange", Rows.laid_strconv_ErrRange), ("strconv.ErrSyntax", Rows.laid_strconv_ErrSyntax)] W from hL))
  obtain ⟨m, hm⟩ := Go.Proofs.cell_of_shapedOpen_int (P := Tryd.prog) (g := 1) (zero := #[.int .i64 0]) (t := 3) hs (of_decide_eq_true (by kernel_rfl)) (by kernel_rfl) rfl (by kernel_rfl) (by kernel_rfl) Tryd.underlying3
  obtain ⟨a0, s0, hv0, _⟩ := laid_sentinel (Go.laidMet.tail h1) (show Tryd.prog.globalNamed "strconv.ErrRange" = some 3 by kernel_rfl) (show (Tryd.prog.globals[3]?).map (·.type) = some 49 by kernel_rfl) Tryd.underlying49 typeErr Tryd.underlying87 Tryd.underlying89 rfl rfl Tryd.underlying9 (by kernel_rfl) (by kernel_rfl)
  obtain ⟨a1, s1, hv1, _⟩ := laid_sentinel (Go.laidMet.tail (Go.laidMet.tail h1)) (show Tryd.prog.globalNamed "strconv.ErrSyntax" = some 2 by kernel_rfl) (show (Tryd.prog.globals[2]?).map (·.type) = some 49 by kernel_rfl) Tryd.underlying49 typeErr Tryd.underlying87 Tryd.underlying89 rfl rfl Tryd.underlying9 (by kernel_rfl) (by kernel_rfl)
  exact ⟨Lib.tabIs_of_head (show Tryd.prog.globalNamed "internal/strconv.uint64pow10" = some 0 by kernel_rfl) (show (Tryd.prog.globals[0]?).map (·.type) = some 72 by kernel_rfl) Tryd.underlying72 Tryd.underlying57 (by kernel_rfl) (by kernel_rfl) h1, ⟨_, _, hv1⟩, ⟨_, _, hv0⟩, m, hm⟩
theorem cellsSpan : Tryd.prog.cellsOf 23 = 2 := by kernel_rfl
theorem cellsI64 : Tryd.prog.cellsOf 2 = 1 := by kernel_rfl
theorem open_span {H : Type} {enc : TypeId × Value → H} {W : World} {v : Value} {d : DataW H} {p : List MemPlace} {base : Nat}
    (hv : Value.okWide Tryd.prog W .any base 23 v) (h : DataW.Trod enc Tryd.prog W 0 (fun _ => true) true 23 v d p) :
    ∃ a b : Int, v = .agg #[.int .i64 a, .int .i64 b] ∧ -9223372036854775808 ≤ a ∧ a ≤ 9223372036854775807 ∧ -9223372036854775808 ≤ b ∧ b ≤ 9223372036854775807 := by
  simp only [Value.okWide, Tryd.underlying23] at hv
  obtain ⟨cs, rfl, hsz, _⟩ := hv
  rw [cellsSpan] at hsz
  obtain ⟨c0, c1, rfl⟩ : ∃ c0 c1, cs = #[c0, c1] := by
    obtain ⟨l⟩ := cs
    match l, hsz with
    | [c0, c1], _ => exact ⟨c0, c1, rfl⟩
  obtain ⟨fuel, hf⟩ := h
  obtain ⟨xs, n, rfl, _, _, hl, hf⟩ := DataW.trod_struct Tryd.underlying23 hf
  have l : xs.length = 2 := hl
  have f0 : DataW.trod enc Tryd.prog W 0 (fun _ => true) true n 2 (List.take (Tryd.prog.cellsOf 2) (List.drop 0 [c0, c1])) = xs[0]? := hf 0 _ rfl
  rw [cellsI64, List.getElem?_eq_getElem (by omega)] at f0
  replace f0 : DataW.trod enc Tryd.prog W 0 (fun _ => true) true n 2 [c0] = some _ := f0
  have f1 : DataW.trod enc Tryd.prog W 0 (fun _ => true) true n 2 (List.take (Tryd.prog.cellsOf 2) (List.drop 1 [c0, c1])) = xs[1]? := hf 1 _ rfl
  rw [cellsI64, List.getElem?_eq_getElem (by omega)] at f1
  replace f1 : DataW.trod enc Tryd.prog W 0 (fun _ => true) true n 2 [c1] = some _ := f1
  obtain ⟨a, ea, _, wa⟩ := DataW.trod_int Tryd.underlying2 f0
  obtain ⟨b, eb, _, wb⟩ := DataW.trod_int Tryd.underlying2 f1
  obtain ⟨a1, a2⟩ := i64_of wa
  obtain ⟨b1, b2⟩ := i64_of wb
  simp at ea eb
  subst ea eb
  exact ⟨a, b, rfl, a1, a2, b1, b2⟩
end Go.Proofs.YtpcedmiehoimbaaDoor
