/-
  Words for the walks over spans: a world that has only grown; a span's two cells in a block of its own.
-/
import Derived.Test.YtpcedmiehoimbaaDoorSpanPlain
import Derived.Test.YtpcedmiehoimbaaDoorChecked
import Derived.Test.YtpcedmiehoimbaaDoorShelf
import Derived.ProofKit
import Derived.WalkKit
import Derived.BigCall
import Derived.BigGuard
import Derived.Lib.AppendIntMem
import Derived.Lib.CleanWalkFns
import Derived.Test.YtpcedmiehoimbaaDoorGrow
namespace Go.Proofs.YtpcedmiehoimbaaDoor
open Go.RowKit SpanP

/-- Of what was there nothing has turned. -/
def Gr (w w' : World) : Prop := Below w.heap.size w w'
section
variable {a w w' : World}
theorem Gr.refl (w : World) : Gr w w := Below.refl _ w
theorem Gr.trans (h : Gr a w) (k : Gr w w') : Gr a w' := Below.trans h (Below.mono k h.size)
theorem Gr.alloc (h : Gr a w) (o : Obj) : Gr a (w.alloc o) := Below.alloc h h.size o
theorem Gr.drew (h : Gr a w) : Gr a w.drew := Below.drew h
theorem Gr.drewN (h : Gr a w) (n : Nat) : Gr a (w.drewN n) := ⟨h.os, h.tape, h.output, h.size, h.block⟩
theorem Gr.set_ (h : Gr a w) {p : Addr} (hp : a.heap.size ≤ p.block) (u : Value) : Gr a (w.setCell p u) := Below.setCell h hp u
theorem Gr.cell (h : Gr w w') {b i : Nat} {v : Value} (hc : w.cell? ⟨b, i, none⟩ = some v) : w'.cell? ⟨b, i, none⟩ = some v :=
  (Below.cell h (p := ⟨b, i, none⟩) (block_lt_of_cell hc)).trans hc
theorem Gr.froz (h : Gr w w') {b i : Nat} (hb : b < w.heap.size) (hf : w.frozen? ⟨b, i, none⟩ = false) : w'.frozen? ⟨b, i, none⟩ = false := (Below.frozen h (p := ⟨b, i, none⟩) hb).trans hf
theorem new0 (w : World) (x y : Value) (t : TypeId) : (w.alloc (.cells #[x, y] t)).cell? ⟨w.heap.size, 0, none⟩ = some x := cell_of_row _ _ 0 #[x, y] t (0, 0) (heap_alloc_new w _)
theorem new1 (w : World) (x y : Value) (t : TypeId) : (w.alloc (.cells #[x, y] t)).cell? ⟨w.heap.size, 1, none⟩ = some y := cell_of_row _ _ 1 #[x, y] t (0, 0) (heap_alloc_new w _)
theorem keep (o : Obj) {b i : Nat} {v : Value} (hc : w.cell? ⟨b, i, none⟩ = some v) : (w.alloc o).cell? ⟨b, i, none⟩ = some v := Gr.cell ((Gr.refl w).alloc o) hc
theorem growc {b i : Nat} {v : Value} (hc : w.cell? ⟨b, i, none⟩ = some v) : ∀ r, (grow w r).cell? ⟨b, i, none⟩ = some v := fun r => Gr.cell (grow_below w r) hc
theorem Gr.grow_ (h : Gr a w) (r : World) : Gr a (grow w r) := h.trans (grow_below w r)
end
end Go.Proofs.YtpcedmiehoimbaaDoor
