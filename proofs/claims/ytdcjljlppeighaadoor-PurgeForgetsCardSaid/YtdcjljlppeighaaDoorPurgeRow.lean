/-
  What the rows of the statements on purges share: what the listed variables hold, as the walks want it.
-/
import Derived.Test.YtdcjljlppeighaaDoorCards
import Derived.Test.YtdcjljlppeighaaDoorTie
import Derived.Test.YtdcjljlppeighaaDoorPurgeStd
import Derived.Test.YtdcjljlppeighaaDoorPurgeOps
import Derived.ProofKit
import Derived.OpenShut
import Derived.ShutString
import Derived.ChangeOld
import Derived.Deep.DeepHandedRow
import Derived.Deep.DeepWitnessRowRef
import Derived.Lib.LaidTab
import Derived.Lib.SmallJoins
import Derived.Stop.LaidErr
import Derived.Lay
namespace Go.Proofs.YtdcjljlppeighaaDoor
open Go.ChangeShapes Go.WideShapes Go.ChangeAt Go.RowKit

theorem own : ownKnob Tryd.prog.godebug = none := by kernel_rfl
theorem laidOut : laidOutB Tryd.prog = true := by kernel_rfl
theorem typeErr : ∀ u, Tryd.prog.typeName? 3 u = some "*errors.errorString" → u = 138 := by
  intro u hu
  have star : "*" ++ "errors.errorString" = "*errors.errorString" := by decide
  exact typeName_ptr_named (nm := "errors.errorString") (by rw [star]; kernel_rfl) (by kernel_rfl) (by decide) u (by rw [star]; exact hu)
theorem std_of {W : World} (hL : laidMet Tryd.prog Rows.purgeTextsRow.laid W) (hs : W.ShapedOpen Tryd.prog) : Std W := by
  have h1 : laidMet Tryd.prog _ W := Go.laidMet.tail (Go.laidMet.tail (show laidMet Tryd.prog [("math/bits.deBruijn32tab", Rows.laid_math_bits_deBruijn32tab), ("math/bits.deBruijn64tab", Rows.laid_math_bits_deBruijn64tab), ("internal/strconv.uint64pow10", Lib.tabData .u64 Lib.pow10Tab), ("unicode/utf8.acceptRanges", Rows.laid_unicode_utf8_acceptRanges), ("strconv.ErrRange", Rows.laid_strconv_ErrRange), ("strconv.ErrSyntax", Rows.laid_strconv_ErrSyntax), ("unicode/utf8.first", Rows.laid_unicode_utf8_first)] W from hL))
  obtain ⟨m, hm⟩ := Go.Proofs.cell_of_shapedOpen_int (P := Tryd.prog) (g := 3) (zero := #[.int .i64 0]) (t := 3) hs (of_decide_eq_true (by kernel_rfl)) (by kernel_rfl) rfl (by kernel_rfl) (by kernel_rfl) Tryd.underlying3
  obtain ⟨a0, s0, hv0, _⟩ := laid_sentinel (Go.laidMet.tail (Go.laidMet.tail h1)) (show Tryd.prog.globalNamed "strconv.ErrRange" = some 2 by kernel_rfl) (show (Tryd.prog.globals[2]?).map (·.type) = some 86 by kernel_rfl) Tryd.underlying86 typeErr Tryd.underlying138 Tryd.underlying140 rfl rfl Tryd.underlying9 (by kernel_rfl) (by kernel_rfl)
  obtain ⟨a1, s1, hv1, _⟩ := laid_sentinel (Go.laidMet.tail (Go.laidMet.tail (Go.laidMet.tail h1))) (show Tryd.prog.globalNamed "strconv.ErrSyntax" = some 1 by kernel_rfl) (show (Tryd.prog.globals[1]?).map (·.type) = some 86 by kernel_rfl) Tryd.underlying86 typeErr Tryd.underlying138 Tryd.underlying140 rfl rfl Tryd.underlying9 (by kernel_rfl) (by kernel_rfl)
  exact ⟨Lib.tabIs_of_head (show Tryd.prog.globalNamed "internal/strconv.uint64pow10" = some 0 by kernel_rfl) (show (Tryd.prog.globals[0]?).map (·.type) = some 120 by kernel_rfl) Tryd.underlying120 Tryd.underlying103 (by kernel_rfl) (by kernel_rfl) h1, ⟨_, _, hv1⟩, ⟨_, _, hv0⟩, m, hm⟩
end Go.Proofs.YtdcjljlppeighaaDoor
