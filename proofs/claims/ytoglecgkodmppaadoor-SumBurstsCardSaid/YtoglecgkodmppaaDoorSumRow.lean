/-
  What the rows of the statements on sums share: the table that the rows list, as the walks want it; how an argument that is a slice of bytes, or of numbers, is opened.
-/
import Derived.Test.YtoglecgkodmppaaDoorCards
import Derived.Test.YtoglecgkodmppaaDoorTie
import Derived.Test.YtoglecgkodmppaaDoorSumWalkA
import Derived.ProofKit
import Derived.OpenShut
import Derived.ShutString
import Derived.ChangeOld
import Derived.Deep.DeepHandedRow
import Derived.Lib.LaidTab
namespace Go.Proofs.YtoglecgkodmppaaDoor
open Go.ChangeShapes Go.WideShapes Go.ChangeAt Go.RowKit SumP

theorem own : ownKnob Tryd.prog.godebug = none := by kernel_rfl
theorem laidOut : laidOutB Tryd.prog = true := by kernel_rfl
theorem gTab : Tryd.prog.globalNamed "mandoline/sum.steps" = some 0 := by kernel_rfl
theorem gTabType : (Tryd.prog.globals[0]?).map (·.type) = some 49 := by kernel_rfl
theorem cellsTab : Tryd.prog.cellsOf 49 = 16 := by kernel_rfl
theorem cellsU32 : Tryd.prog.cellsOf 23 = 1 := by kernel_rfl
theorem cellsU8 : Tryd.prog.cellsOf 5 = 1 := by kernel_rfl
def tabNums : List Int := [0, 498536548, 997073096, 651767980, 1994146192, 1802195444, 1303535960, 1342533948, 3988292384, 4027552580, 3604390888, 3412177804, 2607071920, 2262029012, 2685067896, 3183342108]
theorem tabNums_eq : ∀ i : Fin 16, tabNums.getD i.val 0 = U (T16.getD i.val 0#32) := by decide
theorem tab_of {W : World} (h : Lib.TabIs Tryd.prog W "mandoline/sum.steps" .u32 tabNums) : Tab W := by
  intro x
  have hx := nib_lt x
  have := h.cell gTab (nib x) (by simpa [tabNums] using hx)
  rw [this]
  congr 2
  exact tabNums_eq ⟨nib x, hx⟩

/-- A number of a kind, as the walks carry it. -/
theorem u32_of {x : Int} (h : (Lit.int .u32 x).wf = true) : ∃ s : BitVec 32, x = U s := by
  have hb : 0 ≤ x ∧ x ≤ 4294967295 := by simpa [Lit.wf, IntKind.min, IntKind.max, IntKind.signed, IntKind.bits] using h
  refine ⟨BitVec.ofNat 32 x.toNat, ?_⟩
  unfold U
  rw [BitVec.toNat_ofNat, Nat.mod_eq_of_lt (by omega)]
  omega
theorem i64_of {x : Int} (h : (Lit.int .i64 x).wf = true) : -9223372036854775808 ≤ x ∧ x ≤ 9223372036854775807 := by
  simpa [Lit.wf, IntKind.min, IntKind.max, IntKind.signed, IntKind.bits] using h
theorem u64_of {x : Int} (h : (Lit.int .u64 x).wf = true) : ∃ n : Nat, x = n ∧ n < 18446744073709551616 := by
  have hb : 0 ≤ x ∧ x ≤ 18446744073709551615 := by simpa [Lit.wf, IntKind.min, IntKind.max, IntKind.signed, IntKind.bits] using h
  exact ⟨x.toNat, by omega, by omega⟩
theorem u16_of {x : Int} (h : (Lit.int .u16 x).wf = true) : ∃ n : Nat, x = n ∧ n < 65536 := by
  have hb : 0 ≤ x ∧ x ≤ 65535 := by simpa [Lit.wf, IntKind.min, IntKind.max, IntKind.signed, IntKind.bits] using h
  exact ⟨x.toNat, by omega, by omega⟩
theorem u8_of {x : Int} (h : (Lit.int .u8 x).wf = true) : ∃ c : UInt8, x = (c.toNat : Int) := by
  have hb : 0 ≤ x ∧ x ≤ 255 := by simpa [Lit.wf, IntKind.min, IntKind.max, IntKind.signed, IntKind.bits] using h
  refine ⟨UInt8.ofNat x.toNat, ?_⟩
  rw [UInt8.toNat_ofNat']
  omega

section
variable {H : Type} {enc : TypeId × Value → H} {W : World} {v : Value} {d : DataW H} {p : List MemPlace} {base : Nat}
/-- A slice of bytes that came in. -/
theorem open_bytes (hv : Value.okWide Tryd.prog W .any base 22 v) (h : DataW.Trod enc Tryd.prog W 0 (fun _ => true) true 22 v d p) :
    ∃ (l : List UInt8) (A : Option Addr) (cap : Nat), v = .slice A l.length cap ∧ l.length ≤ cap ∧ cap ≤ maxLen ∧ RB W A l := by
  obtain ⟨a, len, cap, rfl⟩ := okWide_slice Tryd.underlying22 hv
  obtain ⟨fuel, hf⟩ := h
  rcases open_ints Tryd.underlying22 Tryd.underlying5 cellsU8 hf with ⟨hcs, _⟩ | ⟨x, l, c, zs, hcs, _, hl, hm, hz, _, hcell, hwz⟩
  · simp [Value.cells] at hcs
    obtain ⟨rfl, rfl, rfl⟩ := hcs
    exact ⟨[], none, 0, rfl, Nat.le_refl _, Nat.zero_le _, RB.nil⟩
  · simp [Value.cells] at hcs
    obtain ⟨rfl, rfl, rfl⟩ := hcs
    have hz' : zs.length = cap := by simpa using hz
    have hlen : ((zs.take len).map fun z => UInt8.ofNat z.toNat).length = len := by simp; omega
    refine ⟨(zs.take len).map fun z => UInt8.ofNat z.toNat, some x, cap, by rw [hlen], by rw [hlen]; exact hl, hm, ?_⟩
    intro hne
    have hpos : 0 < len := by
      rcases Nat.eq_zero_or_pos len with h0 | h0
      · subst h0; exact absurd (by simp [cB]) hne
      · exact h0
    obtain ⟨b, off, spot⟩ := x
    have hc0 := hcell 0 (by omega)
    have hspot : spot = none := by simpa [Addr.add] using World.cell?_spot hc0
    subst hspot
    have hadd : ∀ j, (⟨b, off, none⟩ : Addr).add j = ⟨b, off + j, none⟩ := by intro j; unfold Addr.add; split <;> simp_all
    refine ⟨b, off, rfl, ?_, fun j u hu => ?_⟩
    · have := block_lt_of_cell hc0
      rwa [hadd] at this
    · have hj : j < len := by
        have := (List.getElem?_eq_some_iff.1 hu).1
        rw [cB_len, hlen] at this; exact this
      have hc := hcell j (by omega)
      rw [hadd] at hc
      rw [hc]
      have hjz : j < zs.length := by omega
      have e1 : zs.getD j 0 = zs[j] := by simp [List.getD, hjz]
      obtain ⟨c, hcc⟩ := u8_of (hwz zs[j] (List.getElem_mem hjz))
      have e2 : (cB ((zs.take len).map fun z => UInt8.ofNat z.toNat))[j]? = some (byteV (UInt8.ofNat zs[j].toNat)) := by
        simp [cB, hj, hjz]
      rw [e2] at hu
      injection hu with hu
      rw [← hu, e1, hcc]
      unfold byteV
      congr 2
      simp
theorem cellsI64 : Tryd.prog.cellsOf 2 = 1 := by kernel_rfl
/-- A slice of int64 that came in. -/
theorem open_nums (hv : Value.okWide Tryd.prog W .any base 39 v) (h : DataW.Trod enc Tryd.prog W 0 (fun _ => true) true 39 v d p) :
    ∃ (l : List Int) (A : Option Addr) (cap : Nat), v = .slice A l.length cap ∧ l.length ≤ cap ∧ cap ≤ maxLen ∧ RI W A l ∧ ∀ n ∈ l, -9223372036854775808 ≤ n ∧ n ≤ 9223372036854775807 := by
  obtain ⟨a, len, cap, rfl⟩ := okWide_slice Tryd.underlying39 hv
  obtain ⟨fuel, hf⟩ := h
  rcases open_ints Tryd.underlying39 Tryd.underlying2 cellsI64 hf with ⟨hcs, _⟩ | ⟨x, l, c, zs, hcs, _, hl, hm, hz, _, hcell, hwz⟩
  · simp [Value.cells] at hcs
    obtain ⟨rfl, rfl, rfl⟩ := hcs
    exact ⟨[], none, 0, rfl, Nat.le_refl _, Nat.zero_le _, RV.nil, by simp⟩
  · simp [Value.cells] at hcs
    obtain ⟨rfl, rfl, rfl⟩ := hcs
    have hz' : zs.length = cap := by simpa using hz
    have hlen : (zs.take len).length = len := by simp; omega
    refine ⟨zs.take len, some x, cap, by rw [hlen], by rw [hlen]; exact hl, hm, ?_, fun n hn => i64_of (hwz n (List.mem_of_mem_take hn))⟩
    intro hne
    have hpos : 0 < len := by
      rcases Nat.eq_zero_or_pos len with h0 | h0
      · subst h0; exact absurd (by simp [cI]) hne
      · exact h0
    obtain ⟨b, off, spot⟩ := x
    have hc0 := hcell 0 (by omega)
    have hspot : spot = none := by simpa [Addr.add] using World.cell?_spot hc0
    subst hspot
    have hadd : ∀ j, (⟨b, off, none⟩ : Addr).add j = ⟨b, off + j, none⟩ := by intro j; unfold Addr.add; split <;> simp_all
    refine ⟨b, off, rfl, ?_, fun j u hu => ?_⟩
    · have := block_lt_of_cell hc0
      rwa [hadd] at this
    · have hj : j < len := by
        have := (List.getElem?_eq_some_iff.1 hu).1
        rw [cI_len, hlen] at this; exact this
      have hc := hcell j (by omega)
      rw [hadd] at hc
      rw [hc]
      have hjz : j < zs.length := by omega
      have e1 : zs.getD j 0 = zs[j] := by simp [List.getD, hjz]
      have e2 : (cI (zs.take len))[j]? = some (intV zs[j]) := by simp [cI, hj, hjz]
      rw [e2] at hu
      injection hu with hu
      rw [← hu, e1]
      rfl
end
end Go.Proofs.YtoglecgkodmppaaDoor
