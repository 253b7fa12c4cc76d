/-
  Rows of events that a call makes; walk of the program's Split. Printed by spgen.py.
-/
import Derived.Test.YtiokbebodblhaaaGreatDoorTAl
import Derived.Test.YtiokbebodblhaaaGreatDoorTPlain
import Derived.OwnWalk
namespace Go.Proofs.YtiokbebodblhaaaGreatDoor
open Go.RowKit TraceP
attribute [local go_sem] Row.val

/-- A row that lies in none of F's blocks. -/
structure RowX {α : Type} (c : α → List Value) (F : Nat → Prop) (w : World) (r : Row α) : Prop where
  le : r.l.length ≤ r.cap
  cap : r.cap ≤ 9223372036854775807
  rv : RVF w F r.A (fl c r.l)
theorem RowX.next {α : Type} {c : α → List Value} {F G H : Nat → Prop} {w w' : World} {r : Row α} (h : RowX c F w r) (K : Kept G w w') (hG : ∀ k, k < w.heap.size → G k → F k) (hH : ∀ k, k < w.heap.size → H k → F k) : RowX c H w' r :=
  ⟨h.le, h.cap, h.rv.next (K.mono hG) hH⟩
theorem RowX.toN {α : Type} {c : α → List Value} {F : Nat → Prop} {w : World} {r : Row α} (h : RowX c F w r) : RowN c 0 w r := ⟨h.le, h.cap, h.rv.mono fun k _ hk => absurd hk (Nat.not_lt_zero k)⟩
/-- An event whose rows lie in none of F's blocks. -/
structure EvtX (F : Nat → Prop) (w : World) (e : EvtR) : Prop where
  specs : RowX spC F w e.req.specs
  mtch : RowX tgC F w e.req.mtch
  non : RowX tgC F w e.req.non
  mkeys : RowX txC F w e.met.keys
  fields : RowX fdC F w e.ans.fields
  parts : RowX ptC F w e.ans.parts
  rkeys : RowX txC F w e.rep.met.keys
  bytes : RowX byC F w e.bytes
  keys : RowX txC F w e.keys
theorem EvtX.next {F G H : Nat → Prop} {w w' : World} {e : EvtR} (h : EvtX F w e) (K : Kept G w w') (hG : ∀ k, k < w.heap.size → G k → F k) (hH : ∀ k, k < w.heap.size → H k → F k) : EvtX H w' e :=
  ⟨h.specs.next K hG hH, h.mtch.next K hG hH, h.non.next K hG hH, h.mkeys.next K hG hH, h.fields.next K hG hH, h.parts.next K hG hH, h.rkeys.next K hG hH, h.bytes.next K hG hH, h.keys.next K hG hH⟩
theorem EvtX.below {F : Nat → Prop} {w w' : World} {e : EvtR} (h : EvtX F w e) (d : Below w.heap.size w w') : EvtX F w' e := h.next (Kept.of_below d (fun _ => False)) (fun _ _ h => h.elim) (fun _ _ h => h)
theorem EvtX.ok {F : Nat → Prop} {w : World} {e : EvtR} (h : EvtX F w e) (p : EvtP e.abs) : EvtOK w e :=
  EvtN.ok (B := 0) ⟨h.specs.toN, h.mtch.toN, h.non.toN, h.mkeys.toN, h.fields.toN, h.parts.toN, h.rkeys.toN, h.bytes.toN, h.keys.toN⟩ p
/-- Events that a call has put into a row of its own. -/
structure EvsX (B : Nat) (w : World) (v : Value) (l : List EvtR) : Prop where
  own : w.ownsRow B 45 57 v l.length (fl EvtR.cells l)
  x : ∀ e ∈ l, EvtX (fun k => v.ownBlock = some k) w e ∧ EvtP e.abs
theorem EvsX.nil (B : Nat) (w : World) : EvsX B w (.slice none 0 0) [] := ⟨⟨rfl, .inl ⟨rfl, rfl⟩⟩, fun _ h => absurd h List.not_mem_nil⟩
theorem EvsX.below {B : Nat} {w w' : World} {v : Value} {l : List EvtR} (h : EvsX B w v l) (d : Below w.heap.size w w') : EvsX B w' v l :=
  ⟨own_below h.own d (fun k hk => (h.own.lt k hk).2), fun e he => ⟨(h.x e he).1.below d, (h.x e he).2⟩⟩
theorem EvsX.push {B : Nat} {w w' : World} {v v' : Value} {l : List EvtR} {e : EvtR} (h : EvsX B w v l) (he : EvtX (fun k => v.ownBlock = some k) w e) (hp : EvtP e.abs)
    (own : w'.ownsRow B 45 57 v' (l.length + 1) (fl EvtR.cells l ++ e.cells)) (gr : w.grownBy w' v.ownBlock) (hv : v'.ownBlock = v.ownBlock ∨ v'.ownBlock = some w.heap.size) : EvsX B w' v' (l ++ [e]) := by
  have K : Kept (fun k => v.ownBlock = some k) w w' := (Kept.refl _ w).grown gr (fun k hk => .inl hk)
  have hH : ∀ k, k < w.heap.size → v'.ownBlock = some k → v.ownBlock = some k := fun k hk h1 => by
    rcases hv with h2 | h2
    · rw [← h2]; exact h1
    · rw [h2] at h1; injection h1 with h1; omega
  refine ⟨by rw [List.length_append, List.length_singleton, fl_append, fl_one]; exact own, fun x hx => ?_⟩
  rcases List.mem_append.1 hx with hx | hx
  · exact ⟨(h.x x hx).1.next K (fun _ _ h => h) hH, (h.x x hx).2⟩
  · rw [List.mem_singleton] at hx
    subst hx
    exact ⟨he.next K (fun _ _ h => h) hH, hp⟩
theorem EvsX.ok {B : Nat} {w : World} {v : Value} {l : List EvtR} (h : EvsX B w v l) : ∃ A c, v = .slice A l.length c ∧ EvsOK w A l c := by
  obtain ⟨A, c, rfl, h1, h2⟩ := own_form h.own
  exact ⟨A, c, rfl, (RVF.of_own (F := fun _ => False) h.own (fun _ h => h.elim)).rv, h1, h2, fun e he => (h.x e he).1.ok (h.x e he).2⟩
theorem below_grownS {w w1 w2 : World} {row : Option Nat} (h : Below w.heap.size w w1) (g : w1.grownBy w2 row) (hr : ∀ k, row = some k → w.heap.size ≤ k) : Below w.heap.size w w2 :=
  ((Kept.of_below h (fun _ => False)).grown g (fun k hk => .inr (hr k hk))).below (fun _k _ hF => hF.elim) (Nat.le_refl _)
end Go.Proofs.YtiokbebodblhaaaGreatDoor
