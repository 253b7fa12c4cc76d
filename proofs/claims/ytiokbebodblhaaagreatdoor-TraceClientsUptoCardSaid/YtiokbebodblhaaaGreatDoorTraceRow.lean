/-
  What the rows of the statements on traces share: what the listed variables hold, as the walks want it.
-/
import Derived.Test.YtiokbebodblhaaaGreatDoorCards
import Derived.Test.YtiokbebodblhaaaGreatDoorTie
import Derived.Test.YtiokbebodblhaaaGreatDoorTMemo
import Derived.ProofKit
import Derived.OpenShut
import Derived.ShutString
import Derived.ChangeOld
import Derived.Deep.DeepHandedRow
import Derived.Deep.DeepWitnessRowRef
import Derived.Lib.LaidTab
import Derived.Lib.SmallJoins
import Derived.Stop.LaidErr
import Derived.Lay
namespace Go.Proofs.YtiokbebodblhaaaGreatDoor
open Go.ChangeShapes Go.WideShapes Go.ChangeAt Go.RowKit TraceP

theorem own : ownKnob Tryz.prog.godebug = none := by kernel_rfl
theorem laidOut : laidOutB Tryz.prog = true := by kernel_rfl
theorem typeErr : ∀ u, Tryz.prog.typeName? 3 u = some "*errors.errorString" → u = 230 := by
  intro u hu
  have star : "*" ++ "errors.errorString" = "*errors.errorString" := by decide
  exact typeName_ptr_named (nm := "errors.errorString") (by rw [star]; kernel_rfl) (by kernel_rfl) (by decide) u (by rw [star]; exact hu)
/-- An array of texts, as a row lists it. -/
def strData {H : Type} (ts : List Txt) : DataW H := .agg (ts.map fun t => .lit (.string t))
theorem bstr_back (s : ByteArray) : bstr s.data.toList = s := by unfold bstr; apply ByteArray.ext; simp
theorem cells_of_strs {H : Type} {enc : TypeId × Value → H} {P : Program} {w : World} {base : Nat} {sp : Nat → Bool} {held : Bool} {fuel : Nat} {t e : TypeId} {n : Nat} {cs : List Value} {ts : List Txt} {p : List MemPlace}
    (ht : P.underlying t = some (.array n e)) (he : P.underlying e = some .string) (hce : P.cellsOf e = 1) (hct : P.cellsOf t = n)
    (h : DataW.trod enc P w base sp held fuel t cs = some (strData ts, p)) : cs = ts.map fun t => Value.string (bstr t) := by
  cases fuel with
  | zero => simp [DataW.trod] at h
  | succ fuel =>
    simp only [DataW.trod, ht, hce, hct, Nat.mul_one] at h
    split at h
    · rename_i hl
      obtain ⟨xs, hm, hx⟩ := Option.map_eq_some_iff.1 h
      have hxs : xs.map (·.1) = ts.map fun t => (DataW.lit (.string t) : DataW H) := by
        have := congrArg Prod.fst hx
        simpa [strData] using this
      have hxl : xs.length = n := by simpa using Lib.mapM_length hm
      have hzl : ts.length = n := by
        have := congrArg List.length hxs
        simp at this
        omega
      apply List.ext_getElem?
      intro i
      by_cases hi : i < n
      · obtain ⟨b, hb, hf⟩ := Lib.mapM_at hm i i (by simp [hi])
        obtain ⟨s, hc, rfl, _⟩ := DataW.trod_string he hf
        have h1 : cs[i]? = some (.string s) := by
          have := congrArg (·[0]?) hc
          simpa [List.getElem?_take, List.getElem?_drop] using this
        have h2 : (xs.map (·.1))[i]? = some (DataW.lit (.string s.data.toList) : DataW H) := by simp [hb]
        rw [hxs] at h2
        simp only [List.getElem?_map, Option.map_eq_some_iff, DataW.lit.injEq, Lit.string.injEq] at h2
        obtain ⟨t', ht', e⟩ := h2
        simp only [List.getElem?_map, h1, ht', Option.map_some, e, bstr_back]
      · rw [List.getElem?_eq_none (by omega), List.getElem?_eq_none (by simp; omega)]
    · cases h
theorem kinds_of {W : World} {rest : List (String × DataW Unit)} (h : laidMet Tryz.prog (("mandoline/trace.kinds", Rows.laid_mandoline_trace_kinds) :: rest) W) : ∀ k, k < 17 → W.cell? ⟨0, k, none⟩ = some (.string (bstr (kindT k))) := by
  obtain ⟨ps, ⟨g', t', cs, fuel, p, q, hg', ht', hvar, hd, _, _⟩, _⟩ := h
  obtain rfl := Option.some.inj ((show Tryz.prog.globalNamed "mandoline/trace.kinds" = some 0 by kernel_rfl).symm.trans hg')
  obtain rfl := Option.some.inj ((show (Tryz.prog.globals[0]?).map (·.type) = some 145 by kernel_rfl).symm.trans ht')
  have e : (Rows.laid_mandoline_trace_kinds : DataW Unit) = strData ((List.range 17).map kindT) := by kernel_rfl
  rw [e] at hd
  have hc := cells_of_strs Tryz.underlying145 Tryz.underlying9 (by kernel_rfl) (by kernel_rfl) hd
  intro k hk
  have := World.var?_cell (show Tryz.prog.globalNamed "mandoline/trace.kinds" = some 0 by kernel_rfl) hvar k
  rw [this]
  have hcs : cs = (((List.range 17).map kindT).map fun t => Value.string (bstr t)).toArray := by rw [← hc]
  rw [hcs]
  simp [hk]
theorem std_of {W : World} (hL : laidMet Tryz.prog Rows.traceTextsRow.laid W) (hs : W.ShapedOpen Tryz.prog) : Std W := by
  have h1 : laidMet Tryz.prog _ W := Go.laidMet.tail (Go.laidMet.tail (show laidMet Tryz.prog [("math/bits.deBruijn32tab", Rows.laid_math_bits_deBruijn32tab), ("math/bits.deBruijn64tab", Rows.laid_math_bits_deBruijn64tab), ("internal/strconv.uint64pow10", Lib.tabData .u64 Lib.pow10Tab), ("unicode/utf8.acceptRanges", Rows.laid_unicode_utf8_acceptRanges), ("strconv.ErrRange", Rows.laid_strconv_ErrRange), ("strconv.ErrSyntax", Rows.laid_strconv_ErrSyntax), ("mandoline/trace.kinds", Rows.laid_mandoline_trace_kinds), ("unicode/utf8.first", Rows.laid_unicode_utf8_first)] W from hL))
  obtain ⟨m, hm⟩ := Go.Proofs.cell_of_shapedOpen_int (P := Tryz.prog) (g := 1) (zero := #[.int .i64 0]) (t := 3) hs (of_decide_eq_true (by kernel_rfl)) (by kernel_rfl) rfl (by kernel_rfl) (by kernel_rfl) Tryz.underlying3
  obtain ⟨a0, s0, hv0, _⟩ := laid_sentinel (Go.laidMet.tail (Go.laidMet.tail h1)) (show Tryz.prog.globalNamed "strconv.ErrRange" = some 6 by kernel_rfl) (show (Tryz.prog.globals[6]?).map (·.type) = some 115 by kernel_rfl) Tryz.underlying115 typeErr Tryz.underlying230 Tryz.underlying232 rfl rfl Tryz.underlying9 (by kernel_rfl) (by kernel_rfl)
  obtain ⟨a1, s1, hv1, _⟩ := laid_sentinel (Go.laidMet.tail (Go.laidMet.tail (Go.laidMet.tail h1))) (show Tryz.prog.globalNamed "strconv.ErrSyntax" = some 5 by kernel_rfl) (show (Tryz.prog.globals[5]?).map (·.type) = some 115 by kernel_rfl) Tryz.underlying115 typeErr Tryz.underlying230 Tryz.underlying232 rfl rfl Tryz.underlying9 (by kernel_rfl) (by kernel_rfl)
  exact ⟨Lib.tabIs_of_head (show Tryz.prog.globalNamed "internal/strconv.uint64pow10" = some 2 by kernel_rfl) (show (Tryz.prog.globals[2]?).map (·.type) = some 218 by kernel_rfl) Tryz.underlying218 Tryz.underlying200 (by kernel_rfl) (by kernel_rfl) h1, ⟨_, _, hv1⟩, ⟨_, _, hv0⟩, ⟨m, hm⟩, kinds_of (Go.laidMet.tail (Go.laidMet.tail (Go.laidMet.tail (Go.laidMet.tail h1))))⟩
end Go.Proofs.YtiokbebodblhaaaGreatDoor
