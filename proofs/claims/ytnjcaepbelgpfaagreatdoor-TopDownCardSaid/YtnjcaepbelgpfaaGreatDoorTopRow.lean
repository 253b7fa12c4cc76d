/-
  What the row of TopDown wants: its arguments, opened.
-/
import Derived.Test.YtnjcaepbelgpfaaGreatDoorCards
import Derived.Test.YtnjcaepbelgpfaaGreatDoorTie
import Derived.Test.YtnjcaepbelgpfaaGreatDoorTopDownW
import Derived.Test.YtnjcaepbelgpfaaGreatDoorOpen
import Derived.ProofKit
import Derived.OpenShut
import Derived.ShutString
import Derived.ChangeOld
import Derived.Deep.DeepHandedRow
import Derived.Deep.DeepWitnessRowRef
import Derived.Lib.LaidTab
import Derived.Lib.SmallJoins
import Derived.Stop.LaidErr
import Derived.Lay
namespace Go.Proofs.YtnjcaepbelgpfaaGreatDoor
open Go.ChangeShapes Go.WideShapes Go.ChangeAt Go.RowKit

theorem own : ownKnob Tryz.prog.godebug = none := by kernel_rfl
theorem laidOut : laidOutB Tryz.prog = true := by kernel_rfl
theorem bstr_back (s : ByteArray) : bstr s.data.toList = s := by unfold bstr; apply ByteArray.ext; simp
set_option maxRecDepth 100000 in
theorem open_strs {H : Type} {enc : TypeId × Value → H} {W : World} {v : Value} {d : DataW H} {p : List MemPlace} {base : Nat}
    (hv : Value.okWide Tryz.prog W .any base 23 v) (h : DataW.Trod enc Tryz.prog W 0 (fun _ => true) true 23 v d p) :
    ∃ (l : List Txt) (A : Option Addr) (cap : Nat), v = .slice A l.length cap ∧ l.length ≤ 9223372036854775807 ∧ (∀ t ∈ l, t.length ≤ 9223372036854775807) ∧ RV W A (l.map sV) := by
  obtain ⟨n, hn⟩ := trod_one Tryz.underlying23 hv h
  obtain ⟨vs, A, cap, rfl, h1, h2, h3, h4⟩ := cells_of Tryz.underlying23 (by kernel_rfl) hn
  have hs : ∀ u ∈ vs, ∃ t : Txt, u = sV t ∧ t.length ≤ 9223372036854775807 := fun u hu => by
    obtain ⟨n, d, hd⟩ := h4 u hu
    obtain ⟨s, hc, _, hw⟩ := DataW.trod_string Tryz.underlying9 hd
    refine ⟨s.data.toList, ?_, ?_⟩
    · unfold sV
      rw [bstr_back]
      simpa using hc
    · have : s.data.toList.length = s.size := Array.length_toList
      rw [this]
      exact hw
  obtain ⟨l, rfl⟩ := map_of sV (vs := vs) (fun u hu => by obtain ⟨t, ht, _⟩ := hs u hu; exact ⟨t, ht⟩)
  refine ⟨l, A, cap, by simp, ?_, fun t ht => ?_, h3⟩
  · unfold maxLen at h2
    simp at h1
    omega
  · obtain ⟨t', e, hw⟩ := hs (sV t) (List.mem_map.2 ⟨t, ht, rfl⟩)
    rw [sV_inj e]
    exact hw
theorem u8n {x : Int} (h : (Lit.int .u8 x).wf = true) : ∃ c : Nat, x = (c : Int) ∧ c ≤ 255 := by
  have hb : 0 ≤ x ∧ x ≤ 255 := by simpa [Lit.wf, IntKind.min, IntKind.max, IntKind.signed, IntKind.bits] using h
  exact ⟨x.toNat, by omega, by omega⟩
set_option maxRecDepth 100000 in
theorem open_u8x3 {H : Type} {enc : TypeId × Value → H} {W : World} {v : Value} {d : DataW H} {p : List MemPlace} {base : Nat}
    (hv : Value.okWide Tryz.prog W .any base 22 v) (h : DataW.Trod enc Tryz.prog W 0 (fun _ => true) true 22 v d p) :
    ∃ a b c : Nat, v = .agg #[.int .u8 a, .int .u8 b, .int .u8 c] ∧ a ≤ 255 ∧ b ≤ 255 ∧ c ≤ 255 := by
  simp only [Value.okWide, Tryz.underlying22] at hv
  obtain ⟨cs, rfl, hsz, _⟩ := hv
  rw [show Tryz.prog.cellsOf 22 = 3 by kernel_rfl] at hsz
  obtain ⟨c0, c1, c2, rfl⟩ : ∃ c0 c1 c2, cs = #[c0, c1, c2] := by
    obtain ⟨l⟩ := cs
    match l, hsz with
    | [c0, c1, c2], _ => exact ⟨c0, c1, c2, rfl⟩
  obtain ⟨fuel, hf⟩ := h
  obtain ⟨xs, m, rfl, _, _, hl, hf⟩ := DataW.trod_array Tryz.underlying22 hf
  have c_u8 : Tryz.prog.cellsOf 5 = 1 := by kernel_rfl
  have f0 := hf 0 (by omega)
  rw [c_u8, List.getElem?_eq_getElem (by omega)] at f0
  replace f0 : DataW.trod enc Tryz.prog W 0 (fun _ => true) true m 5 [c0] = some _ := f0
  obtain ⟨a, e0, _, w0⟩ := DataW.trod_int Tryz.underlying5 f0
  simp at e0
  have f1 := hf 1 (by omega)
  rw [c_u8, List.getElem?_eq_getElem (by omega)] at f1
  replace f1 : DataW.trod enc Tryz.prog W 0 (fun _ => true) true m 5 [c1] = some _ := f1
  obtain ⟨b, e1, _, w1⟩ := DataW.trod_int Tryz.underlying5 f1
  simp at e1
  have f2 := hf 2 (by omega)
  rw [c_u8, List.getElem?_eq_getElem (by omega)] at f2
  replace f2 : DataW.trod enc Tryz.prog W 0 (fun _ => true) true m 5 [c2] = some _ := f2
  obtain ⟨c, e2, _, w2⟩ := DataW.trod_int Tryz.underlying5 f2
  simp at e2
  subst e0 e1 e2
  obtain ⟨a', rfl, ha⟩ := u8n w0
  obtain ⟨b', rfl, hb⟩ := u8n w1
  obtain ⟨c', rfl, hc⟩ := u8n w2
  exact ⟨a', b', c', rfl, ha, hb, hc⟩
end Go.Proofs.YtnjcaepbelgpfaaGreatDoor
