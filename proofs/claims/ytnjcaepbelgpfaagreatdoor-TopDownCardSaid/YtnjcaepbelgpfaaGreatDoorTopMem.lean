/-
  A ring in memory: its names, its points; keys of maps.
-/
import Derived.Test.YtnjcaepbelgpfaaGreatDoorTopSearch
import Derived.Test.YtnjcaepbelgpfaaGreatDoorTopHash
import Derived.Test.YtnjcaepbelgpfaaGreatDoorTopOwn
import Derived.Test.YtnjcaepbelgpfaaGreatDoorMapV
namespace Go.Proofs.YtnjcaepbelgpfaaGreatDoor
open Go.RowKit Go.Maps Go.WideMaps TopP

abbrev Txt := List UInt8
def sV (t : Txt) : Value := .string (bstr t)
theorem sV_inj {a b : Txt} (h : sV a = sV b) : a = b := by
  unfold sV at h
  injection h with h
  exact bstr_inj h
theorem sV_one (t : Txt) : ∀ u ∈ [sV t], u.oneCell' = true := fun u hu => by rw [List.mem_singleton] at hu; subst hu; rfl
theorem strKeyed : Keyed Tryz.prog 9 := string_keyed Tryz.underlying9
theorem intKeyed : Keyed Tryz.prog 3 := int_keyed Tryz.underlying3
theorem key_sV {s : Txt} (h : s.length ≤ 1000) : ∃ kl, keyOf Tryz.prog 9 (sV s) = some kl :=
  ⟨_, keyOf_string_mk Tryz.underlying9 (by have e : (bstr s).size = s.length := rfl; rw [e]; unfold maxLen; omega)⟩
theorem key_iV {a : Int} (h : I64v a) : keyOf Tryz.prog 3 (.int .i64 a) = some (.int .i64 a) := keyOf_int_mk Tryz.underlying3 (wf_i64V h)
theorem zeroB (w : World) : (zeroValue 4).run Tryz.prog w = .ok (.bool false) w := by kernel_rfl
theorem zeroN (w : World) : (zeroValue 3).run Tryz.prog w = .ok (.int .i64 0) w := by kernel_rfl
theorem info_partsV {P : Program} {e : TypeId} {z : Value} {size bytes : Nat} (h : (P.info? e).map (fun i => (i.zero, i.size, i.bytes)) = some (some z, size, bytes)) : ∃ i, P.info? e = some i ∧ i.zero = some z ∧ i.size = size ∧ i.bytes = bytes := by
  obtain ⟨i, hi, he⟩ := Option.map_eq_some_iff.1 h
  injection he with h1 h2
  injection h2 with h2 h3
  exact ⟨i, hi, h1, h2, h3⟩
theorem info_str : (Tryz.prog.info? 9).map (fun i => (i.zero, i.size, i.bytes)) = some (some (.string ⟨#[]⟩), 1, 16) := by kernel_rfl
theorem el_str : El Tryz.prog 23 9 (.string ⟨#[]⟩) 1 16 := ⟨info_partsV info_str, Tryz.underlying23, rfl, by decide⟩
theorem info_int : (Tryz.prog.info? 3).map (fun i => (i.zero, i.size, i.bytes)) = some (some (.int .i64 0), 1, 8) := by kernel_rfl
theorem el_int : El Tryz.prog 32 3 (.int .i64 0) 1 8 := ⟨info_partsV info_int, Tryz.underlying32, rfl, by decide⟩
theorem info_pt : (Tryz.prog.info? 64).map (fun i => (i.zero, i.size, i.bytes)) = some (some (.agg #[.int .u64 0, .string ⟨#[]⟩]), 2, 24) := by kernel_rfl
theorem el_pt : El Tryz.prog 57 64 (.agg #[.int .u64 0, .string ⟨#[]⟩]) 2 24 := ⟨info_partsV info_pt, Tryz.underlying57, rfl, by decide⟩
/-- A ring that is only asked: m names, the points L. -/
def RingR (w : World) (r m : Nat) (L : List Pt) : Prop :=
  ∃ mb A c F, Blk w r 59 #[.int .i64 16, .map (some mb), .slice A L.length c] ∧ MapV w 9 mb m F ∧ RV w A (flK pC L)
theorem RingR.below {w w' : World} {r m : Nat} {L : List Pt} (h : RingR w r m L) (b : Below w.heap.size w w') : RingR w' r m L := by
  obtain ⟨mb, A, c, F, h1, h2, h3⟩ := h
  exact ⟨mb, A, c, F, h1.below b h1.lt, h2.below b h2.lt, h3.below b⟩
end Go.Proofs.YtnjcaepbelgpfaaGreatDoor
