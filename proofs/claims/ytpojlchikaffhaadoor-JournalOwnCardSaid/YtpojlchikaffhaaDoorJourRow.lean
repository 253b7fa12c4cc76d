/-
  What the rows of the statements on logs share: the table that the rows list, as the walks want it; an argument's numbers.
-/
import Derived.Test.YtpojlchikaffhaaDoorCards
import Derived.Test.YtpojlchikaffhaaDoorTie
import Derived.Test.YtpojlchikaffhaaDoorJPage
import Derived.Test.YtpojlchikaffhaaDoorJourOps
import Derived.ProofKit
import Derived.OpenShut
import Derived.ShutString
import Derived.ChangeOld
import Derived.Deep.DeepHandedRow
import Derived.Lib.LaidTab
namespace Go.Proofs.YtpojlchikaffhaaDoor
open Go.ChangeShapes Go.WideShapes Go.ChangeAt Go.RowKit SumP

theorem own : ownKnob Tryd.prog.godebug = none := by kernel_rfl
theorem laidOut : laidOutB Tryd.prog = true := by kernel_rfl
theorem gTab : Tryd.prog.globalNamed "mandoline/sum.steps" = some 0 := by kernel_rfl
theorem gTabType : (Tryd.prog.globals[0]?).map (·.type) = some 115 := by kernel_rfl
theorem cellsTab : Tryd.prog.cellsOf 115 = 16 := by kernel_rfl
theorem cellsU32 : Tryd.prog.cellsOf 99 = 1 := by kernel_rfl
theorem cellsU8 : Tryd.prog.cellsOf 5 = 1 := by kernel_rfl
def tabNums : List Int := [0, 498536548, 997073096, 651767980, 1994146192, 1802195444, 1303535960, 1342533948, 3988292384, 4027552580, 3604390888, 3412177804, 2607071920, 2262029012, 2685067896, 3183342108]
theorem tabNums_eq : ∀ i : Fin 16, tabNums.getD i.val 0 = U (T16.getD i.val 0#32) := by decide
theorem tab_of {W : World} (h : Lib.TabIs Tryd.prog W "mandoline/sum.steps" .u32 tabNums) : Tab W := by
  intro x
  have hx := nib_lt x
  have := h.cell gTab (nib x) (by simpa [tabNums] using hx)
  rw [this]
  congr 2
  exact tabNums_eq ⟨nib x, hx⟩

/-- A number of a kind, as the walks carry it. -/
theorem u32_of {x : Int} (h : (Lit.int .u32 x).wf = true) : ∃ s : BitVec 32, x = U s := by
  have hb : 0 ≤ x ∧ x ≤ 4294967295 := by simpa [Lit.wf, IntKind.min, IntKind.max, IntKind.signed, IntKind.bits] using h
  refine ⟨BitVec.ofNat 32 x.toNat, ?_⟩
  unfold U
  rw [BitVec.toNat_ofNat, Nat.mod_eq_of_lt (by omega)]
  omega
theorem u64_of {x : Int} (h : (Lit.int .u64 x).wf = true) : ∃ n : Nat, x = n ∧ n < 18446744073709551616 := by
  have hb : 0 ≤ x ∧ x ≤ 18446744073709551615 := by simpa [Lit.wf, IntKind.min, IntKind.max, IntKind.signed, IntKind.bits] using h
  exact ⟨x.toNat, by omega, by omega⟩
theorem u16_of {x : Int} (h : (Lit.int .u16 x).wf = true) : ∃ n : Nat, x = n ∧ n < 65536 := by
  have hb : 0 ≤ x ∧ x ≤ 65535 := by simpa [Lit.wf, IntKind.min, IntKind.max, IntKind.signed, IntKind.bits] using h
  exact ⟨x.toNat, by omega, by omega⟩
theorem u8_of {x : Int} (h : (Lit.int .u8 x).wf = true) : ∃ c : UInt8, x = (c.toNat : Int) := by
  have hb : 0 ≤ x ∧ x ≤ 255 := by simpa [Lit.wf, IntKind.min, IntKind.max, IntKind.signed, IntKind.bits] using h
  refine ⟨UInt8.ofNat x.toNat, ?_⟩
  rw [UInt8.toNat_ofNat']
  omega

end Go.Proofs.YtpojlchikaffhaaDoor
