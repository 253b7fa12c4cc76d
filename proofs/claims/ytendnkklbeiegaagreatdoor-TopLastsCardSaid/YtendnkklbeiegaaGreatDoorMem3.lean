/-
  Words for memory, the third part: make; copy.
-/
import Derived.Test.YtendnkklbeiegaaGreatDoorMAI
import Derived.Laws.MakeOwn
import Derived.Laws.CopyOwn
namespace Go.Proofs.YtendnkklbeiegaaGreatDoor
open Go.RowKit

/-- n cells, all z. -/
def rep (n : Nat) (z : Value) : Array Value := (List.replicate n z).toArray
theorem rep_at {n i : Nat} {z : Value} (h : i < n) : (rep n z)[i]? = some z := by simp [rep, h]
theorem made_rep (z : Value) (n : Nat) : madeCells #[z] (n * 1) = rep n z := by
  apply Array.ext_getElem?
  intro i
  rw [Nat.mul_one]
  by_cases h : i < n
  · simp [madeCells, rep, h, Nat.mod_one]
  · simp [madeCells, rep, h]
theorem run_make_n {P : Program} {t e : TypeId} {z : Value} {bytes : Nat} (E : El P t e z 1 bytes) (hz : z.cells = #[z]) (n : Nat) (hb : bytes * n ≤ 281474976710656) (h63 : n ≤ 9223372036854775807) (w : World) :
    (Instr.makeSlice t (.int .i64 (n : Int)) (.int .i64 (n : Int))).run P w = .ok (.slice (some ⟨w.heap.size, 0, none⟩) n n) (w.alloc (.cells (rep n z) e)) := by
  obtain ⟨i, hi, hz0, hs, hby⟩ := E.info
  have hb' : (i.bytes : Int) * (n : Int) ≤ 281474976710656 := by
    rw [hby, ← Int.natCast_mul]
    omega
  have := run_make (P := P) w t e i z E.under hi hz0 .i64 .i64 n n (by omega) (by omega) hb' (by omega)
  simp only [Int.toNat_natCast] at this
  rw [hs, hz, made_rep] at this
  exact this
theorem own_made (w : World) {base : Nat} (e : TypeId) (n : Nat) (z : Value) (hb : base ≤ w.heap.size) (hn : n ≤ maxLen) : (w.alloc (.cells (rep n z) e)).ownsRow base e 1 (.slice (some ⟨w.heap.size, 0, none⟩) n n) n (List.replicate n z) :=
  ⟨by simp, .inr ⟨w.heap.size, n, rep n z, rfl, hb, heap_alloc_new w _, Nat.le_refl _, hn, by simp [rep], by simp [rep]⟩⟩
/-- What can be read, as copy's law asks for it. -/
theorem rv_cells {w : World} {A : Option Addr} {vs : List Value} (h : RV w A vs) : 0 < vs.length → ∃ ad, A = some ad ∧ ∀ (j : Nat) (v : Value), vs[j]? = some v → w.cell? (ad.add j) = some v := by
  intro hl
  obtain ⟨b, off, rfl, _, hc⟩ := h (by rintro rfl; simp at hl)
  refine ⟨_, rfl, fun j v hv => ?_⟩
  have hadd : (⟨b, off, none⟩ : Addr).add j = ⟨b, off + j, none⟩ := by unfold Addr.add; split <;> simp_all
  rw [hadd]
  exact hc j v hv
theorem splice_all (a b : List Value) (h : b.length = a.length) : splice a 0 b = b := by
  unfold splice
  simp [h]
end Go.Proofs.YtendnkklbeiegaaGreatDoor
