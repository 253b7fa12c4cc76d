/-
  What the rows of TopLasts and TopScrub share: the acts opened; what the listed variables hold, as the walks want it.
-/
import Derived.Test.YtendnkklbeiegaaGreatDoorCards
import Derived.Test.YtendnkklbeiegaaGreatDoorTie
import Derived.Test.YtendnkklbeiegaaGreatDoorMAS
import Derived.Test.YtendnkklbeiegaaGreatDoorTlKeep
import Derived.Test.YtendnkklbeiegaaGreatDoorOpen
import Derived.ProofKit
import Derived.OpenShut
import Derived.ShutString
import Derived.ChangeOld
import Derived.Deep.DeepHandedRow
import Derived.Deep.DeepWitnessRowRef
import Derived.Lib.LaidTab
import Derived.Lib.SmallJoins
import Derived.Stop.LaidErr
import Derived.Lay
namespace Go.Proofs.YtendnkklbeiegaaGreatDoor
open Go.ChangeShapes Go.WideShapes Go.ChangeAt Go.RowKit Go.Deep SumP DiskP

theorem own : ownKnob Tryz.prog.godebug = none := by kernel_rfl
theorem gTab : Tryz.prog.globalNamed "mandoline/sum.steps" = some 2 := by kernel_rfl
theorem gTabType : (Tryz.prog.globals[2]?).map (·.type) = some 290 := by kernel_rfl
theorem cellsTab : Tryz.prog.cellsOf 290 = 16 := by kernel_rfl
theorem cellsU32 : Tryz.prog.cellsOf 208 = 1 := by kernel_rfl
def tabNums : List Int := [0, 498536548, 997073096, 651767980, 1994146192, 1802195444, 1303535960, 1342533948, 3988292384, 4027552580, 3604390888, 3412177804, 2607071920, 2262029012, 2685067896, 3183342108]
theorem tabNums_eq : ∀ i : Fin 16, tabNums.getD i.val 0 = U (T16.getD i.val 0#32) := by decide
theorem tab_of {W : World} (h : Lib.TabIs Tryz.prog W "mandoline/sum.steps" .u32 tabNums) : Tab W := by
  intro x
  have hx := nib_lt x
  have := h.cell gTab (nib x) (by simpa [tabNums] using hx)
  rw [this]
  congr 2
  exact tabNums_eq ⟨nib x, hx⟩
theorem glob_of {W : World} (hL : laidMet Tryz.prog Rows.topLastsRow.laid W) (hs : W.ShapedOpen Tryz.prog) : Glob W W.heap.size := by
  have h0 : laidMet Tryz.prog [("mandoline/sum.steps", Lib.tabData .u32 tabNums), ("math/bits.deBruijn32tab", Rows.laid_math_bits_deBruijn32tab), ("math/bits.deBruijn64tab", Rows.laid_math_bits_deBruijn64tab), ("internal/strconv.uint64pow10", Lib.tabData .u64 Lib.pow10Tab), ("unicode/utf8.acceptRanges", Rows.laid_unicode_utf8_acceptRanges), ("strconv.ErrRange", Rows.laid_strconv_ErrRange), ("strconv.ErrSyntax", Rows.laid_strconv_ErrSyntax), ("unicode/utf8.first", Rows.laid_unicode_utf8_first)] W := hL
  have hT : Tab W := tab_of (Lib.tabIs_of_head gTab gTabType Tryz.underlying290 Tryz.underlying208 cellsU32 cellsTab h0)
  have h1 := Go.laidMet.tail (Go.laidMet.tail (Go.laidMet.tail h0))
  have hP := Lib.tabIs_of_head (show Tryz.prog.globalNamed "internal/strconv.uint64pow10" = some 0 by kernel_rfl) (show (Tryz.prog.globals[0]?).map (·.type) = some 269 by kernel_rfl) Tryz.underlying269 Tryz.underlying207 (by kernel_rfl) (by kernel_rfl) h1
  obtain ⟨m, hm⟩ := Go.Proofs.cell_of_shapedOpen_int (P := Tryz.prog) (g := 1) (zero := #[.int .i64 0]) (t := 3) hs (of_decide_eq_true (by kernel_rfl)) (by kernel_rfl) rfl (by kernel_rfl) (by kernel_rfl) Tryz.underlying3
  refine ⟨hT, hP, ⟨m, hm⟩, ?_⟩
  have hx := nib_lt 0
  have a := block_lt_of_cell (hT 0)
  have b := block_lt_of_cell hm
  have c := block_lt_of_cell (hP.cell (show Tryz.prog.globalNamed "internal/strconv.uint64pow10" = some 0 by kernel_rfl) 0 (by decide))
  first
  | exact a
  | exact b
  | exact c
/-- A number of one byte, as the walks carry it. -/
theorem u8_nat {x : Int} (h : (Lit.int .u8 x).wf = true) : ∃ c : Nat, x = (c : Int) ∧ c ≤ 255 := by
  have hb : 0 ≤ x ∧ x ≤ 255 := by simpa [Lit.wf, IntKind.min, IntKind.max, IntKind.signed, IntKind.bits] using h
  exact ⟨x.toNat, by omega, by omega⟩
theorem map_ofK {α β : Type} {p : α → Prop} (f : α → β) {vs : List β} (h : ∀ u ∈ vs, ∃ a, p a ∧ u = f a) : ∃ l : List α, vs = l.map f ∧ ∀ a ∈ l, p a := by
  induction vs with
  | nil => exact ⟨[], rfl, by simp⟩
  | cons u vs ih =>
    obtain ⟨a, ha, rfl⟩ := h u (by simp)
    obtain ⟨l, rfl, hl⟩ := ih (fun u hu => h u (by simp [hu]))
    exact ⟨a :: l, rfl, by simpa using ⟨ha, hl⟩⟩
theorem len2K {r : List Value} (h : r.length = 2) : ∃ a b, r = [a, b] := by
  match r, h with
  | [a, b], _ => exact ⟨a, b, rfl⟩
theorem len4K {r : List Value} (h : r.length = 4) : ∃ a b c d, r = [a, b, c, d] := by
  match r, h with
  | [a, b, c, d], _ => exact ⟨a, b, c, d, rfl⟩
section
variable {H : Type} {enc : TypeId × Value → H} {W : World} {sp : Nat → Bool} {v : Value} {x : DataW H × List MemPlace} {fuel : Nat}
theorem keep_of {r : List Value} (hr : r.length = 4) (h : DataW.trod enc Tryz.prog W 0 sp true fuel 70 r = some x) : ∃ z : KeepA, z.ok ∧ r = z.cells := by
  obtain ⟨v0, v1, v2, v3, rfl⟩ := len4K hr
  obtain ⟨xs, n, rfl, rfl, _, hl, hf⟩ := DataW.trod_struct Tryz.underlying70 h
  have c_1 : Tryz.prog.cellsOf 5 = 1 := by kernel_rfl
  have l : xs.length = 4 := hl
  have f0 : DataW.trod enc Tryz.prog W 0 sp true n 5 (List.take (Tryz.prog.cellsOf 5) (List.drop 0 [v0, v1, v2, v3])) = xs[0]? := hf 0 _ rfl
  rw [c_1, List.getElem?_eq_getElem (by omega)] at f0
  replace f0 : DataW.trod enc Tryz.prog W 0 sp true n 5 [v0] = some _ := f0
  have f1 : DataW.trod enc Tryz.prog W 0 sp true n 5 (List.take (Tryz.prog.cellsOf 5) (List.drop 1 [v0, v1, v2, v3])) = xs[1]? := hf 1 _ rfl
  rw [c_1, List.getElem?_eq_getElem (by omega)] at f1
  replace f1 : DataW.trod enc Tryz.prog W 0 sp true n 5 [v1] = some _ := f1
  have f2 : DataW.trod enc Tryz.prog W 0 sp true n 5 (List.take (Tryz.prog.cellsOf 5) (List.drop 2 [v0, v1, v2, v3])) = xs[2]? := hf 2 _ rfl
  rw [c_1, List.getElem?_eq_getElem (by omega)] at f2
  replace f2 : DataW.trod enc Tryz.prog W 0 sp true n 5 [v2] = some _ := f2
  have f3 : DataW.trod enc Tryz.prog W 0 sp true n 5 (List.take (Tryz.prog.cellsOf 5) (List.drop 3 [v0, v1, v2, v3])) = xs[3]? := hf 3 _ rfl
  rw [c_1, List.getElem?_eq_getElem (by omega)] at f3
  replace f3 : DataW.trod enc Tryz.prog W 0 sp true n 5 [v3] = some _ := f3
  obtain ⟨z0, e0, _, w0⟩ := DataW.trod_int Tryz.underlying5 f0
  obtain ⟨b0, rfl, h0⟩ := u8_nat w0
  injection e0 with e0
  obtain ⟨z1, e1, _, w1⟩ := DataW.trod_int Tryz.underlying5 f1
  obtain ⟨b1, rfl, h1⟩ := u8_nat w1
  injection e1 with e1
  obtain ⟨z2, e2, _, w2⟩ := DataW.trod_int Tryz.underlying5 f2
  obtain ⟨b2, rfl, h2⟩ := u8_nat w2
  injection e2 with e2
  obtain ⟨z3, e3, _, w3⟩ := DataW.trod_int Tryz.underlying5 f3
  obtain ⟨b3, rfl, h3⟩ := u8_nat w3
  injection e3 with e3
  subst e0 e1 e2 e3
  exact ⟨⟨b0, b1, b2, b3⟩, ⟨h0, h1, h2, h3⟩, rfl⟩
theorem cut_of {r : List Value} (hr : r.length = 2) (h : DataW.trod enc Tryz.prog W 0 sp true fuel 25 r = some x) : ∃ (kp : List Bool) (K : Option Addr) (kc : Nat) (torn : Int), r = [.slice K kp.length kc, .int .i64 torn] ∧ RV W K (cL kp) ∧ kp.length ≤ 9223372036854775807 := by
  obtain ⟨v0, v1, rfl⟩ := len2K hr
  obtain ⟨xs, n, rfl, rfl, _, hl, hf⟩ := DataW.trod_struct Tryz.underlying25 h
  have c_0 : Tryz.prog.cellsOf 23 = 1 := by kernel_rfl
  have c_1 : Tryz.prog.cellsOf 3 = 1 := by kernel_rfl
  have l : xs.length = 2 := hl
  have f0 : DataW.trod enc Tryz.prog W 0 sp true n 23 (List.take (Tryz.prog.cellsOf 23) (List.drop 0 [v0, v1])) = xs[0]? := hf 0 _ rfl
  rw [c_0, List.getElem?_eq_getElem (by omega)] at f0
  replace f0 : DataW.trod enc Tryz.prog W 0 sp true n 23 [v0] = some _ := f0
  have f1 : DataW.trod enc Tryz.prog W 0 sp true n 3 (List.take (Tryz.prog.cellsOf 3) (List.drop 1 [v0, v1])) = xs[1]? := hf 1 _ rfl
  rw [c_1, List.getElem?_eq_getElem (by omega)] at f1
  replace f1 : DataW.trod enc Tryz.prog W 0 sp true n 3 [v1] = some _ := f1
  obtain ⟨kl, ka, kc, rfl, h1, h2, h3⟩ := bools_of Tryz.underlying23 Tryz.underlying4 (by kernel_rfl) f0
  obtain ⟨z1, e1, _, w1⟩ := DataW.trod_int Tryz.underlying3 f1
  injection e1 with e1
  subst e1
  unfold maxLen at h2
  exact ⟨kl, ka, kc, z1, rfl, h3, by omega⟩
end
section
variable {H : Type} {enc : TypeId × Value → H} {W : World} {v : Value} {d : DataW H} {p : List MemPlace} {base : Nat}
set_option maxRecDepth 100000 in
theorem open_cut (hv : Value.okWide Tryz.prog W .any base 25 v) (h : DataW.Trod enc Tryz.prog W 0 (fun _ => true) true 25 v d p) : ∃ (kp : List Bool) (K : Option Addr) (kc : Nat) (torn : Int), v = .agg #[.slice K kp.length kc, .int .i64 torn] ∧ RV W K (cL kp) ∧ kp.length ≤ 9223372036854775807 := by
  obtain ⟨cs, rfl, hsz⟩ := okWide_struct Tryz.underlying25 hv
  rw [show Tryz.prog.cellsOf 25 = 2 by kernel_rfl] at hsz
  obtain ⟨fuel, hf0⟩ := h
  obtain ⟨kp, K, kc, torn, e, h1, h2⟩ := cut_of (r := cs.toList) (by simpa using hsz) hf0
  exact ⟨kp, K, kc, torn, congrArg Value.agg (Array.toList_inj.1 e), h1, h2⟩
set_option maxRecDepth 100000 in
theorem open_keeps (hv : Value.okWide Tryz.prog W .any base 22 v) (h : DataW.Trod enc Tryz.prog W 0 (fun _ => true) true 22 v d p) :
    ∃ (l : List KeepA) (A : Option Addr) (cap : Nat), v = .slice A l.length cap ∧ l.length ≤ 9223372036854775807 ∧ RV W A (kC l) ∧ ∀ o ∈ l, o.ok := by
  obtain ⟨n, hf⟩ := trod_one Tryz.underlying22 hv h
  obtain ⟨rows, A, cap, rfl, h1, h2, h3, _, h5⟩ := rows_of Tryz.underlying22 (k := 4) (by kernel_rfl) (by omega) hf
  obtain ⟨l, rfl, hl⟩ := map_ofK KeepA.cells (p := KeepA.ok) (vs := rows) (fun r hr => by
    obtain ⟨hlen, n, d, hd⟩ := h5 r hr
    exact keep_of hlen hd)
  unfold maxLen at h2
  rw [List.length_map] at h1
  exact ⟨l, A, cap, by simp, by omega, by simpa [kC, List.flatMap] using h3, hl⟩
end
end Go.Proofs.YtendnkklbeiegaaGreatDoor
