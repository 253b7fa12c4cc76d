/-
  Walk: an event with nothing but what its kind has. Printed by onlygen.py.
-/
import Derived.Test.YtiokbebodblhaaaGreatDoorTWri
import Derived.Deep.MidRow
import Derived.Deep.Cut
namespace Go.Proofs.YtiokbebodblhaaaGreatDoor
open Go.RowKit TraceP

/-- An event with nothing but what its kind has, as its cells say it. -/
def onlyR (e : EvtR) : EvtR where
  kind := e.kind
  tick := e.tick
  node := if 6 ≤ e.kind then e.node else 0
  who := if 6 ≤ e.kind ∧ e.kind ≠ 16 then e.who else 0
  object := if 1 ≤ e.kind ∧ e.kind ≤ 4 then e.object else []
  req := if e.kind = 6 then e.req else zReqR
  met := if e.kind = 1 then e.met else zMetR
  ans := if e.kind = 8 then e.ans else zAnsR
  fet := if e.kind = 11 then e.fet else zFet
  rep := if e.kind = 12 then e.rep else zRepR
  bytes := if e.kind = 1 ∨ e.kind = 2 ∨ e.kind = 9 ∨ e.kind = 13 then e.bytes else noRow
  keys := if e.kind = 5 then e.keys else noRow
  hard := if e.kind = 5 then e.hard else false
  whole := if e.kind = 10 ∨ e.kind = 14 then e.whole else false
theorem onlyR_abs (e : EvtR) : (onlyR e).abs = onlyE e.abs := by
  unfold onlyR onlyE EvtR.abs
  congr 1
  all_goals (dsimp only; split <;> rfl)
theorem onlyR_ok {w : World} {e : EvtR} (h : EvtOK w e) : EvtOK w (onlyR e) := by
  have z := zEvtR_ok w
  refine ⟨h.kind, h.tick, ?_, ?_, ?_, ?_, ?_, ?_, ?_, ?_, ?_⟩
  · unfold onlyR; dsimp only; split; exact h.node; exact z.node
  · unfold onlyR; dsimp only; split; exact h.who; exact z.who
  · unfold onlyR; dsimp only; split; exact h.req; exact z.req
  · unfold onlyR; dsimp only; split; exact h.met; exact z.met
  · unfold onlyR; dsimp only; split; exact h.ans; exact z.ans
  · unfold onlyR; dsimp only; split; exact h.fet; exact z.fet
  · unfold onlyR; dsimp only; split; exact h.rep; exact z.rep
  · unfold onlyR; dsimp only; split; exact h.bytes; exact z.bytes
  · unfold onlyR; dsimp only; split; exact h.keys; exact z.keys
/-- A goal that the walk lets be. -/
def StopAt (p : Prop) : Prop := p
theorem StopAt.out {p : Prop} (h : p) : StopAt p := h
theorem q_abs {Q : Exit → Act → World → Prop} {e : Exit} {a : Act} {W : World} (S : World → Prop) (hS : S W) (h : ∀ w', S w' → Q e a w') : Q e a W := h _ hS
theorem wpList_build_eq {P : Program} {ops : Array Oper} {rest : List Oper} {o : Oper} {a : Act} {w : World} {Q : Exit → Act → World → Prop} (hg : o.guard = none) (t : TypeId) (parts : Array (Nat × Operand)) (ho : o.op = .build t parts)
    (cells : Array Value) (hb : P.built t (parts.map fun (i, x) => (i, a.eval x)).toList = some cells) (h : wpList P ops Q rest (a.put o.dst (.agg cells)) w) : wpList P ops Q (o :: rest) a w :=
  wpList_build hg t parts ho (by rw [hb]; rfl) (by rw [hb]; exact h)
def putL (cs : Array Value) : Nat → List Value → Array Value
  | _, [] => cs
  | o, v :: r => putL (cs.setIfInBounds o v) (o + 1) r
theorem Blk.setCells_ {g t : Nat} : ∀ (vs : List Value) (o : Nat) {w : World} {cs : Array Value}, Blk w g t cs → Blk (w.setCells g o vs) g t (putL cs o vs)
  | [], _, _, _, h => h
  | v :: r, o, _, _, h => Blk.setCells_ r (o + 1) (h.set_ o v)
theorem Blk.setCells_far {g g' t : Nat} : ∀ (vs : List Value) (o : Nat) {w : World} {cs : Array Value}, Blk w g t cs → g ≠ g' → Blk (w.setCells g' o vs) g t cs
  | [], _, _, _, h, _ => h
  | v :: r, o, _, _, h, hg => Blk.setCells_far r (o + 1) (h.far hg v) hg
theorem Blk.there {w : World} {g t : Nat} {cs : Array Value} (h : Blk w g t cs) (o n : Nat) (hn : o + n ≤ cs.size) : w.there g o n := fun j hj =>
  ⟨by rw [h.cell]; rw [Array.getElem?_eq_getElem (by omega)]; rfl, h.frozen _⟩
theorem below_setCells {n g : Nat} : ∀ (vs : List Value) (o : Nat) {w0 w : World}, Below n w0 w → n ≤ g → Below n w0 (w.setCells g o vs)
  | [], _, _, _, h, _ => h
  | v :: r, o, _, _w, h, hg => below_setCells r (o + 1) (h.setCell hg v) hg
theorem setRow_far {w : World} {g g' : Nat} (cs : Array Value) (_ : Nat) (h : g' ≠ g) : (w.setRow g cs).heap[g']? = w.heap[g']? := by
  simp only [World.setRow, Array.getElem?_modify]
  rw [if_neg (by omega)]
def only0 (e : EvtR) : EvtR := { zEvtR with kind := e.kind, tick := e.tick }
def only1 (e : EvtR) : EvtR := { only0 e with node := e.node }
def only2 (e : EvtR) : EvtR := { only1 e with who := e.who }
/-- The three blocks of 'only': the event, what is told, what is made. -/
structure OnlyW (w0 w' : World) (e x : EvtR) : Prop where
  bE : Blk w' w0.heap.size 45 e.cells.toArray
  bR : Blk w' (w0.heap.size + 1) 45 zEvtR.cells.toArray
  bX : Blk w' (w0.heap.size + 2) 45 x.cells.toArray
  B : Below w0.heap.size w0 w'
theorem OnlyW.mid {w0 w' : World} {e x : EvtR} (h : OnlyW w0 w' e x) (o : Nat) (vs : List Value) (y : EvtR) (hy : putL x.cells.toArray o vs = y.cells.toArray) : OnlyW w0 (w'.setCells (w0.heap.size + 2) o vs) e y :=
  ⟨h.bE.setCells_far vs o (by omega), h.bR.setCells_far vs o (by omega), hy ▸ h.bX.setCells_ vs o, below_setCells vs o h.B (by omega)⟩
theorem OnlyW.drew {w0 w' : World} {e x : EvtR} (h : OnlyW w0 w' e x) : OnlyW w0 w'.drew e x := ⟨h.bE, h.bR, h.bX, ⟨h.B.os, h.B.tape, h.B.output, h.B.size, h.B.block⟩⟩
theorem OnlyW.one {w0 w' : World} {e x : EvtR} (h : OnlyW w0 w' e x) (o : Nat) (v : Value) (y : EvtR) (hy : x.cells.toArray.setIfInBounds o v = y.cells.toArray) : OnlyW w0 (w'.setCell ⟨w0.heap.size + 2, o, none⟩ v) e y :=
  h.mid o [v] y hy

set_option maxRecDepth 100000 in
set_option maxHeartbeats 6400000 in
theorem only_calls (w : World) (e : EvtR) (hk : 1 ≤ e.kind ∧ e.kind ≤ 16) :
    Calls Tryz.prog 62 #[.agg e.cells.toArray] w fun r w' => r = .returned (.agg (onlyR e).cells.toArray) ∧ Below w.heap.size w w' := by
  go_enter Tryz.func62, Tryz.ntmps62
  unfold Tryz.f62
  go_step
  go_step
  with_reducible refine wp_region_lit ?_
  with_reducible refine wpList_cutAt 2 ?_
  simp only [List.take_succ_cons, List.take_zero, List.drop_succ_cons, List.drop_zero]
  repeat (first | go_values | go_skip | go_guarded | go_step | go_upon)
  with_reducible refine CutQ.go_ (wpList_nil ?_)
  go_step
  go_step
  go_step
  go_step
  have hz : ((w.alloc (.cells e.cells.toArray 45)).alloc (.cells zEvtR.cells.toArray 45)).heap.size = w.heap.size + 2 := by simp
  refine wpList_abs (fun w' => Blk w' w.heap.size 45 e.cells.toArray ∧ Blk w' (w.heap.size + 1) 45 zEvtR.cells.toArray ∧ w'.heap.size = w.heap.size + 2 ∧ Below w.heap.size w w')
    ⟨(Blk.new w 45 e.cells.toArray).alloc _, by have := Blk.new (w.alloc (.cells e.cells.toArray 45)) 45 zEvtR.cells.toArray; rwa [show (w.alloc (.cells e.cells.toArray 45)).heap.size = w.heap.size + 1 by simp] at this, hz,
      (below_new w (.cells e.cells.toArray 45)).trans ((below_new (w.alloc (.cells e.cells.toArray 45)) (.cells zEvtR.cells.toArray 45)).mono (by simp))⟩ ?_
  clear hz
  rintro w1 ⟨bE, bR, z1, B1⟩
  have x0 := bE.at_ (i := 0) (v := .int .i64 e.kind) rfl
  have x1 := bE.at_ (i := 1) (v := .int .i64 e.tick) rfl
  with_reducible refine wpList_cutAt 4 ?_
  simp only [List.take_succ_cons, List.take_zero, List.drop_succ_cons, List.drop_zero]
  repeat (first | go_values | go_skip | go_guarded | go_step | go_upon)
  with_reducible refine CutQ.go_ ?_
  clear x0 x1
  with_reducible refine wpList_build_eq rfl 45 _ rfl (only0 e).cells.toArray (by kernel_rfl) ?_
  go_frame
  with_reducible refine wpList_cutAt 1 ?_
  simp only [List.take_succ_cons, List.take_zero, List.drop_succ_cons, List.drop_zero]
  repeat (first | go_values | go_skip | go_guarded | go_step | go_upon)
  with_reducible refine CutQ.go_ ?_
  have hz : (w1.alloc (.cells zEvtR.cells.toArray 45)).heap.size = w.heap.size + 3 := by simp [z1]
  have bX := Blk.new w1 45 zEvtR.cells.toArray
  rw [z1] at bX
  have B2 := B1.trans ((below_new w1 (.cells zEvtR.cells.toArray 45)).mono (by omega))
  refine wpList_abs (fun w' => Blk w' w.heap.size 45 e.cells.toArray ∧ Blk w' (w.heap.size + 1) 45 zEvtR.cells.toArray ∧ Blk w' (w.heap.size + 2) 45 zEvtR.cells.toArray ∧ Below w.heap.size w w') ⟨bE.alloc _, bR.alloc _, bX, B2⟩ ?_
  clear bE bR bX B1 B2 hz z1
  rintro w2 ⟨bE, bR, bX, B2⟩
  have bX' : w2.heap[w.heap.size + 2]? = some (Obj.cells zEvtR.cells.toArray 45) := bX
  with_reducible refine wpList_store_row rfl 45 (.tmp 3) (.tmp 8) rfl (w.heap.size + 2) (only0 e).cells.toArray (by kernel_rfl) (by kernel_rfl) 45 zEvtR.cells.toArray bX' (by kernel_rfl) (by kernel_rfl) (by kernel_rfl) (wpList_nil ?_)
  have O : OnlyW w (w2.setRow (w.heap.size + 2) (only0 e).cells.toArray) e (only0 e) :=
    ⟨(setRow_far _ 0 (by omega)).trans bE, (setRow_far _ 0 (by omega)).trans bR, bX.setRow_ _, below_setRow B2 (by omega) _⟩
  revert O
  generalize w2.setRow (w.heap.size + 2) (only0 e).cells.toArray = w3
  intro O
  clear bX' bE bR bX B2
  simp only [Act.put]
  have x0 := O.bE.at_ (i := 0) (v := .int .i64 e.kind) rfl
  have x2 := O.bE.at_ (i := 2) (v := .int .i64 e.node) rfl
  have x3 := O.bE.at_ (i := 3) (v := .int .i64 e.who) rfl
  have c2 := O.bX.at_ (i := 2) (v := .int .i64 0) rfl
  have c3 := O.bX.at_ (i := 3) (v := .int .i64 0) rfl
  have f2 := O.bX.frozen 2
  have f3 := O.bX.frozen 3
  go_step
  go_step
  go_step
  rename_i K1 hK1
  have HK : Hid (∀ (a : Act) (w : World), _ → K1 a w) := hK1
  clear hK1

  have K16 : e.kind = 1 ∨ e.kind = 2 ∨ e.kind = 3 ∨ e.kind = 4 ∨ e.kind = 5 ∨ e.kind = 6 ∨ e.kind = 7 ∨ e.kind = 8 ∨ e.kind = 9 ∨ e.kind = 10 ∨ e.kind = 11 ∨ e.kind = 12 ∨ e.kind = 13 ∨ e.kind = 14 ∨ e.kind = 15 ∨ e.kind = 16 := by omega
  rcases K16 with ek | ek | ek | ek | ek | ek | ek | ek | ek | ek | ek | ek | ek | ek | ek | ek
  case' inl =>
    rw [ek] at x0
    repeat (first | go_values | go_skip | go_guarded | go_step | go_upon)
    with_reducible refine HK.out _ _ ?_
    clear HK
    go_step
    rename_i K2 hK2
    have HK2 : Hid (∀ (a : Act) (w : World), _ → K2 a w) := hK2
    clear hK2
    have O' := O
    revert O'
    generalize w3 = w4 at *
    intro O'
    clear x0 x2 x3 c2 c3 f2 f3 O
    have x0 := O'.bE.at_ (i := 0) (v := .int .i64 1) (by rw [← ek]; rfl)
    go_upto_region 8 with (fail)
    have a_4 := O'.bE.at_ (i := 4) (v := .string (bstr e.object)) rfl
    have z_4 := O'.bX.at_ (i := 4) (v := .string (bstr [])) rfl
    have f_4 := O'.bX.frozen 4
    have a_16 := O'.bE.at_ (i := 16) (v := .string (bstr e.met.tag.text)) rfl
    have z_16 := O'.bX.at_ (i := 16) (v := .string (bstr [])) rfl
    have f_16 := O'.bX.frozen 16
    have a_17 := O'.bE.at_ (i := 17) (v := .bool e.met.tag.weak) rfl
    have z_17 := O'.bX.at_ (i := 17) (v := .bool false) rfl
    have f_17 := O'.bX.frozen 17
    have a_18 := O'.bE.at_ (i := 18) (v := .int .i64 e.met.modi) rfl
    have z_18 := O'.bX.at_ (i := 18) (v := .int .i64 0) rfl
    have f_18 := O'.bX.frozen 18
    have a_19 := O'.bE.at_ (i := 19) (v := .int .i64 e.met.len) rfl
    have z_19 := O'.bX.at_ (i := 19) (v := .int .i64 0) rfl
    have f_19 := O'.bX.frozen 19
    have a_20 := O'.bE.at_ (i := 20) (v := .int .i64 e.met.have_) rfl
    have z_20 := O'.bX.at_ (i := 20) (v := .int .i64 0) rfl
    have f_20 := O'.bX.frozen 20
    have a_21 := O'.bE.at_ (i := 21) (v := .int .i64 e.met.fresh) rfl
    have z_21 := O'.bX.at_ (i := 21) (v := .int .i64 0) rfl
    have f_21 := O'.bX.frozen 21
    have a_22 := O'.bE.at_ (i := 22) (v := .int .i64 e.met.while_) rfl
    have z_22 := O'.bX.at_ (i := 22) (v := .int .i64 0) rfl
    have f_22 := O'.bX.frozen 22
    have a_23 := O'.bE.at_ (i := 23) (v := .int .i64 e.met.error) rfl
    have z_23 := O'.bX.at_ (i := 23) (v := .int .i64 0) rfl
    have f_23 := O'.bX.frozen 23
    have a_24 := O'.bE.at_ (i := 24) (v := .slice e.met.keys.A e.met.keys.l.length e.met.keys.cap) rfl
    have z_24 := O'.bX.at_ (i := 24) (v := .slice none 0 0) rfl
    have f_24 := O'.bX.frozen 24
    have a_25 := O'.bE.at_ (i := 25) (v := .string (bstr e.met.tenant)) rfl
    have z_25 := O'.bX.at_ (i := 25) (v := .string (bstr [])) rfl
    have f_25 := O'.bX.frozen 25
    have a_26 := O'.bE.at_ (i := 26) (v := .bool e.met.keep) rfl
    have z_26 := O'.bX.at_ (i := 26) (v := .bool false) rfl
    have f_26 := O'.bX.frozen 26
    have a_53 := O'.bE.at_ (i := 53) (v := .slice e.bytes.A e.bytes.l.length e.bytes.cap) rfl
    have z_53 := O'.bX.at_ (i := 53) (v := .slice none 0 0) rfl
    have f_53 := O'.bX.frozen 53
    go_region
    refine q_abs (fun w' => OnlyW w w' e ({ only0 e with object := e.object, met := e.met, bytes := e.bytes } : EvtR)) ((((O'.one 4 (.string (bstr e.object)) ({ only0 e with object := e.object } : EvtR) rfl).mid 16 [.string (bstr e.met.tag.text), .bool e.met.tag.weak, .int .i64 e.met.modi, .int .i64 e.met.len, .int .i64 e.met.have_, .int .i64 e.met.fresh, .int .i64 e.met.while_, .int .i64 e.met.error, .slice e.met.keys.A e.met.keys.l.length e.met.keys.cap, .string (bstr e.met.tenant), .bool e.met.keep] ({ only0 e with object := e.object, met := e.met } : EvtR) (by kernel_rfl)).one 53 (.slice e.bytes.A e.bytes.l.length e.bytes.cap) ({ only0 e with object := e.object, met := e.met, bytes := e.bytes } : EvtR) (by kernel_rfl)).drew) ?_
    clear a_4 z_4 f_4 a_16 z_16 f_16 a_17 z_17 f_17 a_18 z_18 f_18 a_19 z_19 f_19 a_20 z_20 f_20 a_21 z_21 f_21 a_22 z_22 f_22 a_23 z_23 f_23 a_24 z_24 f_24 a_25 z_25 f_25 a_26 z_26 f_26 a_53 z_53 f_53 x0 O'
    intro w5 O2
    repeat (first | go_values | go_skip | go_guarded | go_step | go_upon)
    have hX : ({ only0 e with object := e.object, met := e.met, bytes := e.bytes } : EvtR) = onlyR e := by unfold onlyR; simp [ek, only0, zEvtR]
    rw [hX] at O2
    with_reducible refine HK2.out _ _ ?_
    clear HK2 hX
    go_step
    go_step
  case' inr.inl =>
    rw [ek] at x0
    repeat (first | go_values | go_skip | go_guarded | go_step | go_upon)
    with_reducible refine HK.out _ _ ?_
    clear HK
    go_step
    rename_i K2 hK2
    have HK2 : Hid (∀ (a : Act) (w : World), _ → K2 a w) := hK2
    clear hK2
    have O' := O
    revert O'
    generalize w3 = w4 at *
    intro O'
    clear x0 x2 x3 c2 c3 f2 f3 O
    have x0 := O'.bE.at_ (i := 0) (v := .int .i64 2) (by rw [← ek]; rfl)
    go_upto_region 10 with (fail)
    have a_4 := O'.bE.at_ (i := 4) (v := .string (bstr e.object)) rfl
    have z_4 := O'.bX.at_ (i := 4) (v := .string (bstr [])) rfl
    have f_4 := O'.bX.frozen 4
    have a_53 := O'.bE.at_ (i := 53) (v := .slice e.bytes.A e.bytes.l.length e.bytes.cap) rfl
    have z_53 := O'.bX.at_ (i := 53) (v := .slice none 0 0) rfl
    have f_53 := O'.bX.frozen 53
    go_region
    refine q_abs (fun w' => OnlyW w w' e ({ only0 e with object := e.object, bytes := e.bytes } : EvtR)) (((O'.one 4 (.string (bstr e.object)) ({ only0 e with object := e.object } : EvtR) rfl).one 53 (.slice e.bytes.A e.bytes.l.length e.bytes.cap) ({ only0 e with object := e.object, bytes := e.bytes } : EvtR) (by kernel_rfl)).drew) ?_
    clear a_4 z_4 f_4 a_53 z_53 f_53 x0 O'
    intro w5 O2
    repeat (first | go_values | go_skip | go_guarded | go_step | go_upon)
    have hX : ({ only0 e with object := e.object, bytes := e.bytes } : EvtR) = onlyR e := by unfold onlyR; simp [ek, only0, zEvtR]
    rw [hX] at O2
    with_reducible refine HK2.out _ _ ?_
    clear HK2 hX
    go_step
    go_step
  case' inr.inr.inl =>
    rw [ek] at x0
    repeat (first | go_values | go_skip | go_guarded | go_step | go_upon)
    with_reducible refine HK.out _ _ ?_
    clear HK
    go_step
    rename_i K2 hK2
    have HK2 : Hid (∀ (a : Act) (w : World), _ → K2 a w) := hK2
    clear hK2
    have O' := O
    revert O'
    generalize w3 = w4 at *
    intro O'
    clear x0 x2 x3 c2 c3 f2 f3 O
    have x0 := O'.bE.at_ (i := 0) (v := .int .i64 3) (by rw [← ek]; rfl)
    go_upto_region 13 with (fail)
    have a_4 := O'.bE.at_ (i := 4) (v := .string (bstr e.object)) rfl
    have z_4 := O'.bX.at_ (i := 4) (v := .string (bstr [])) rfl
    have f_4 := O'.bX.frozen 4
    repeat (first | go_values | go_skip | go_guarded | go_step | go_upon)
    have O2 := O'.one 4 (.string (bstr e.object)) ({ only0 e with object := e.object } : EvtR) (by kernel_rfl)
    revert O2
    generalize w4.setCell ⟨w.heap.size + 2, 4, none⟩ (.string (bstr e.object)) = w5
    intro O2
    clear a_4 z_4 f_4 x0 O'
    have hX : ({ only0 e with object := e.object } : EvtR) = onlyR e := by unfold onlyR; simp [ek, only0, zEvtR]
    rw [hX] at O2
    with_reducible refine HK2.out _ _ ?_
    clear HK2 hX
    go_step
    go_step
  case' inr.inr.inr.inl =>
    rw [ek] at x0
    repeat (first | go_values | go_skip | go_guarded | go_step | go_upon)
    with_reducible refine HK.out _ _ ?_
    clear HK
    go_step
    rename_i K2 hK2
    have HK2 : Hid (∀ (a : Act) (w : World), _ → K2 a w) := hK2
    clear hK2
    have O' := O
    revert O'
    generalize w3 = w4 at *
    intro O'
    clear x0 x2 x3 c2 c3 f2 f3 O
    have x0 := O'.bE.at_ (i := 0) (v := .int .i64 4) (by rw [← ek]; rfl)
    go_upto_region 13 with (fail)
    have a_4 := O'.bE.at_ (i := 4) (v := .string (bstr e.object)) rfl
    have z_4 := O'.bX.at_ (i := 4) (v := .string (bstr [])) rfl
    have f_4 := O'.bX.frozen 4
    repeat (first | go_values | go_skip | go_guarded | go_step | go_upon)
    have O2 := O'.one 4 (.string (bstr e.object)) ({ only0 e with object := e.object } : EvtR) (by kernel_rfl)
    revert O2
    generalize w4.setCell ⟨w.heap.size + 2, 4, none⟩ (.string (bstr e.object)) = w5
    intro O2
    clear a_4 z_4 f_4 x0 O'
    have hX : ({ only0 e with object := e.object } : EvtR) = onlyR e := by unfold onlyR; simp [ek, only0, zEvtR]
    rw [hX] at O2
    with_reducible refine HK2.out _ _ ?_
    clear HK2 hX
    go_step
    go_step
  case' inr.inr.inr.inr.inl =>
    rw [ek] at x0
    repeat (first | go_values | go_skip | go_guarded | go_step | go_upon)
    with_reducible refine HK.out _ _ ?_
    clear HK
    go_step
    rename_i K2 hK2
    have HK2 : Hid (∀ (a : Act) (w : World), _ → K2 a w) := hK2
    clear hK2
    have O' := O
    revert O'
    generalize w3 = w4 at *
    intro O'
    clear x0 x2 x3 c2 c3 f2 f3 O
    have x0 := O'.bE.at_ (i := 0) (v := .int .i64 5) (by rw [← ek]; rfl)
    go_upto_region 15 with (fail)
    have a_54 := O'.bE.at_ (i := 54) (v := .slice e.keys.A e.keys.l.length e.keys.cap) rfl
    have z_54 := O'.bX.at_ (i := 54) (v := .slice none 0 0) rfl
    have f_54 := O'.bX.frozen 54
    have a_55 := O'.bE.at_ (i := 55) (v := .bool e.hard) rfl
    have z_55 := O'.bX.at_ (i := 55) (v := .bool false) rfl
    have f_55 := O'.bX.frozen 55
    go_region
    refine q_abs (fun w' => OnlyW w w' e ({ only0 e with hard := e.hard, keys := e.keys } : EvtR)) (((O'.one 55 (.bool e.hard) ({ only0 e with hard := e.hard } : EvtR) (by kernel_rfl)).one 54 (.slice e.keys.A e.keys.l.length e.keys.cap) ({ only0 e with hard := e.hard, keys := e.keys } : EvtR) (by kernel_rfl)).drew) ?_
    clear a_54 z_54 f_54 a_55 z_55 f_55 x0 O'
    intro w5 O2
    repeat (first | go_values | go_skip | go_guarded | go_step | go_upon)
    have hX : ({ only0 e with hard := e.hard, keys := e.keys } : EvtR) = onlyR e := by unfold onlyR; simp [ek, only0, zEvtR]
    rw [hX] at O2
    with_reducible refine HK2.out _ _ ?_
    clear HK2 hX
    go_step
    go_step
  case' inr.inr.inr.inr.inr.inl =>
    rw [ek] at x0
    repeat (first | go_values | go_skip | go_guarded | go_step | go_upon)
    with_reducible refine HK.out _ _ ?_
    clear HK
    go_step
    rename_i K2 hK2
    have HK2 : Hid (∀ (a : Act) (w : World), _ → K2 a w) := hK2
    clear hK2
    have O' := (O.one 2 (.int .i64 e.node) (only1 e) rfl).one 3 (.int .i64 e.who) (only2 e) rfl
    revert O'
    generalize (w3.setCell ⟨w.heap.size + 2, 2, none⟩ (.int .i64 e.node)).setCell ⟨w.heap.size + 2, 3, none⟩ (.int .i64 e.who) = w4
    intro O'
    clear x0 x2 x3 c2 c3 f2 f3 O
    have x0 := O'.bE.at_ (i := 0) (v := .int .i64 6) (by rw [← ek]; rfl)
    go_upto_region 17 with (fail)
    have a_5 := O'.bE.at_ (i := 5) (v := .bool e.req.head) rfl
    have a_6 := O'.bE.at_ (i := 6) (v := .string (bstr e.req.object)) rfl
    have a_7 := O'.bE.at_ (i := 7) (v := e.req.specs.val) rfl
    have a_8 := O'.bE.at_ (i := 8) (v := e.req.mtch.val) rfl
    have a_9 := O'.bE.at_ (i := 9) (v := e.req.non.val) rfl
    have a_10 := O'.bE.at_ (i := 10) (v := .bool e.req.anyM) rfl
    have a_11 := O'.bE.at_ (i := 11) (v := .bool e.req.anyN) rfl
    have a_12 := O'.bE.at_ (i := 12) (v := .int .i64 e.req.since) rfl
    have a_13 := O'.bE.at_ (i := 13) (v := .int .i64 e.req.unless_) rfl
    have a_14 := O'.bE.at_ (i := 14) (v := .string (bstr e.req.range.text)) rfl
    have a_15 := O'.bE.at_ (i := 15) (v := .bool e.req.range.weak) rfl
    with_reducible refine wp_region_lit ?_
    with_reducible refine wpList_cutAt 3 ?_
    simp only [List.take_succ_cons, List.take_zero, List.drop_succ_cons, List.drop_zero]
    repeat (first | go_values | go_skip | go_guarded | go_step | go_upon)
    with_reducible refine CutQ.go_ ?_
    with_reducible refine wpList_store_mid rfl 29 (.tmp 60) (.tmp 59) rfl (w.heap.size + 2) 5 e.req.cells.toArray (by kernel_rfl) (by kernel_rfl) (O'.bX.there 5 e.req.cells.toArray.size (of_decide_eq_true (by kernel_rfl))) (by kernel_rfl) (by kernel_rfl) (wpList_nil ?_)
    have O2 := O'.mid 5 e.req.cells.toArray.toList ({ only2 e with req := e.req } : EvtR) (by kernel_rfl)
    revert O2
    generalize w4.setCells (w.heap.size + 2) 5 e.req.cells.toArray.toList = w5
    intro O2
    clear a_5 a_6 a_7 a_8 a_9 a_10 a_11 a_12 a_13 a_14 a_15 x0 O'
    simp only [Act.put]
    repeat (first | go_values | go_skip | go_guarded | go_step | go_upon)
    have hX : ({ only2 e with req := e.req } : EvtR) = onlyR e := by unfold onlyR; simp [ek, only2, only1, only0, zEvtR]
    rw [hX] at O2
    with_reducible refine HK2.out _ _ ?_
    clear HK2 hX
    go_step
    go_step
  case' inr.inr.inr.inr.inr.inr.inl =>
    rw [ek] at x0
    repeat (first | go_values | go_skip | go_guarded | go_step | go_upon)
    with_reducible refine HK.out _ _ ?_
    clear HK
    go_step
    rename_i K2 hK2
    have HK2 : Hid (∀ (a : Act) (w : World), _ → K2 a w) := hK2
    clear hK2
    have O' := (O.one 2 (.int .i64 e.node) (only1 e) rfl).one 3 (.int .i64 e.who) (only2 e) rfl
    revert O'
    generalize (w3.setCell ⟨w.heap.size + 2, 2, none⟩ (.int .i64 e.node)).setCell ⟨w.heap.size + 2, 3, none⟩ (.int .i64 e.who) = w4
    intro O'
    clear x0 x2 x3 c2 c3 f2 f3 O
    have x0 := O'.bE.at_ (i := 0) (v := .int .i64 7) (by rw [← ek]; rfl)
    repeat (first | go_values | go_skip | go_guarded | go_step | go_upon)
    have O2 := O'
    clear x0 O'
    generalize w4 = w5 at *
    have hX : (only2 e) = onlyR e := by unfold onlyR; simp [ek, only2, only1, only0, zEvtR]
    rw [hX] at O2
    with_reducible refine HK2.out _ _ ?_
    clear HK2 hX
    go_step
    go_step
  case' inr.inr.inr.inr.inr.inr.inr.inl =>
    rw [ek] at x0
    repeat (first | go_values | go_skip | go_guarded | go_step | go_upon)
    with_reducible refine HK.out _ _ ?_
    clear HK
    go_step
    rename_i K2 hK2
    have HK2 : Hid (∀ (a : Act) (w : World), _ → K2 a w) := hK2
    clear hK2
    have O' := (O.one 2 (.int .i64 e.node) (only1 e) rfl).one 3 (.int .i64 e.who) (only2 e) rfl
    revert O'
    generalize (w3.setCell ⟨w.heap.size + 2, 2, none⟩ (.int .i64 e.node)).setCell ⟨w.heap.size + 2, 3, none⟩ (.int .i64 e.who) = w4
    intro O'
    clear x0 x2 x3 c2 c3 f2 f3 O
    have x0 := O'.bE.at_ (i := 0) (v := .int .i64 8) (by rw [← ek]; rfl)
    go_upto_region 19 with (fail)
    have a_27 := O'.bE.at_ (i := 27) (v := .int .i64 e.ans.status) rfl
    have a_28 := O'.bE.at_ (i := 28) (v := e.ans.fields.val) rfl
    have a_29 := O'.bE.at_ (i := 29) (v := e.ans.parts.val) rfl
    have a_30 := O'.bE.at_ (i := 30) (v := .int .i64 e.ans.size) rfl
    with_reducible refine wp_region_lit ?_
    with_reducible refine wpList_cutAt 3 ?_
    simp only [List.take_succ_cons, List.take_zero, List.drop_succ_cons, List.drop_zero]
    repeat (first | go_values | go_skip | go_guarded | go_step | go_upon)
    with_reducible refine CutQ.go_ ?_
    with_reducible refine wpList_store_mid rfl 36 (.tmp 65) (.tmp 64) rfl (w.heap.size + 2) 27 e.ans.cells.toArray (by kernel_rfl) (by kernel_rfl) (O'.bX.there 27 e.ans.cells.toArray.size (of_decide_eq_true (by kernel_rfl))) (by kernel_rfl) (by kernel_rfl) (wpList_nil ?_)
    have O2 := O'.mid 27 e.ans.cells.toArray.toList ({ only2 e with ans := e.ans } : EvtR) (by kernel_rfl)
    revert O2
    generalize w4.setCells (w.heap.size + 2) 27 e.ans.cells.toArray.toList = w5
    intro O2
    clear a_27 a_28 a_29 a_30 x0 O'
    simp only [Act.put]
    repeat (first | go_values | go_skip | go_guarded | go_step | go_upon)
    have hX : ({ only2 e with ans := e.ans } : EvtR) = onlyR e := by unfold onlyR; simp [ek, only2, only1, only0, zEvtR]
    rw [hX] at O2
    with_reducible refine HK2.out _ _ ?_
    clear HK2 hX
    go_step
    go_step
  case' inr.inr.inr.inr.inr.inr.inr.inr.inl =>
    rw [ek] at x0
    repeat (first | go_values | go_skip | go_guarded | go_step | go_upon)
    with_reducible refine HK.out _ _ ?_
    clear HK
    go_step
    rename_i K2 hK2
    have HK2 : Hid (∀ (a : Act) (w : World), _ → K2 a w) := hK2
    clear hK2
    have O' := (O.one 2 (.int .i64 e.node) (only1 e) rfl).one 3 (.int .i64 e.who) (only2 e) rfl
    revert O'
    generalize (w3.setCell ⟨w.heap.size + 2, 2, none⟩ (.int .i64 e.node)).setCell ⟨w.heap.size + 2, 3, none⟩ (.int .i64 e.who) = w4
    intro O'
    clear x0 x2 x3 c2 c3 f2 f3 O
    have x0 := O'.bE.at_ (i := 0) (v := .int .i64 9) (by rw [← ek]; rfl)
    go_upto_region 22 with (fail)
    have a_53 := O'.bE.at_ (i := 53) (v := .slice e.bytes.A e.bytes.l.length e.bytes.cap) rfl
    have z_53 := O'.bX.at_ (i := 53) (v := .slice none 0 0) rfl
    have f_53 := O'.bX.frozen 53
    repeat (first | go_values | go_skip | go_guarded | go_step | go_upon)
    have O2 := O'.one 53 (.slice e.bytes.A e.bytes.l.length e.bytes.cap) ({ only2 e with bytes := e.bytes } : EvtR) (by kernel_rfl)
    revert O2
    generalize w4.setCell ⟨w.heap.size + 2, 53, none⟩ (.slice e.bytes.A e.bytes.l.length e.bytes.cap) = w5
    intro O2
    clear a_53 z_53 f_53 x0 O'
    have hX : ({ only2 e with bytes := e.bytes } : EvtR) = onlyR e := by unfold onlyR; simp [ek, only2, only1, only0, zEvtR]
    rw [hX] at O2
    with_reducible refine HK2.out _ _ ?_
    clear HK2 hX
    go_step
    go_step
  case' inr.inr.inr.inr.inr.inr.inr.inr.inr.inl =>
    rw [ek] at x0
    repeat (first | go_values | go_skip | go_guarded | go_step | go_upon)
    with_reducible refine HK.out _ _ ?_
    clear HK
    go_step
    rename_i K2 hK2
    have HK2 : Hid (∀ (a : Act) (w : World), _ → K2 a w) := hK2
    clear hK2
    have O' := (O.one 2 (.int .i64 e.node) (only1 e) rfl).one 3 (.int .i64 e.who) (only2 e) rfl
    revert O'
    generalize (w3.setCell ⟨w.heap.size + 2, 2, none⟩ (.int .i64 e.node)).setCell ⟨w.heap.size + 2, 3, none⟩ (.int .i64 e.who) = w4
    intro O'
    clear x0 x2 x3 c2 c3 f2 f3 O
    have x0 := O'.bE.at_ (i := 0) (v := .int .i64 10) (by rw [← ek]; rfl)
    go_upto_region 25 with (fail)
    have a_56 := O'.bE.at_ (i := 56) (v := .bool e.whole) rfl
    have z_56 := O'.bX.at_ (i := 56) (v := .bool false) rfl
    have f_56 := O'.bX.frozen 56
    repeat (first | go_values | go_skip | go_guarded | go_step | go_upon)
    have O2 := O'.one 56 (.bool e.whole) ({ only2 e with whole := e.whole } : EvtR) (by kernel_rfl)
    revert O2
    generalize w4.setCell ⟨w.heap.size + 2, 56, none⟩ (.bool e.whole) = w5
    intro O2
    clear a_56 z_56 f_56 x0 O'
    have hX : ({ only2 e with whole := e.whole } : EvtR) = onlyR e := by unfold onlyR; simp [ek, only2, only1, only0, zEvtR]
    rw [hX] at O2
    with_reducible refine HK2.out _ _ ?_
    clear HK2 hX
    go_step
    go_step
  case' inr.inr.inr.inr.inr.inr.inr.inr.inr.inr.inl =>
    rw [ek] at x0
    repeat (first | go_values | go_skip | go_guarded | go_step | go_upon)
    with_reducible refine HK.out _ _ ?_
    clear HK
    go_step
    rename_i K2 hK2
    have HK2 : Hid (∀ (a : Act) (w : World), _ → K2 a w) := hK2
    clear hK2
    have O' := (O.one 2 (.int .i64 e.node) (only1 e) rfl).one 3 (.int .i64 e.who) (only2 e) rfl
    revert O'
    generalize (w3.setCell ⟨w.heap.size + 2, 2, none⟩ (.int .i64 e.node)).setCell ⟨w.heap.size + 2, 3, none⟩ (.int .i64 e.who) = w4
    intro O'
    clear x0 x2 x3 c2 c3 f2 f3 O
    have x0 := O'.bE.at_ (i := 0) (v := .int .i64 11) (by rw [← ek]; rfl)
    go_upto_region 27 with (fail)
    have a_31 := O'.bE.at_ (i := 31) (v := .string (bstr e.fet.object)) rfl
    have a_32 := O'.bE.at_ (i := 32) (v := .int .i64 e.fet.span.frm) rfl
    have a_33 := O'.bE.at_ (i := 33) (v := .int .i64 e.fet.span.to) rfl
    have a_34 := O'.bE.at_ (i := 34) (v := .string (bstr e.fet.mtch.text)) rfl
    have a_35 := O'.bE.at_ (i := 35) (v := .bool e.fet.mtch.weak) rfl
    have a_36 := O'.bE.at_ (i := 36) (v := .string (bstr e.fet.non.text)) rfl
    have a_37 := O'.bE.at_ (i := 37) (v := .bool e.fet.non.weak) rfl
    with_reducible refine wp_region_lit ?_
    with_reducible refine wpList_cutAt 3 ?_
    simp only [List.take_succ_cons, List.take_zero, List.drop_succ_cons, List.drop_zero]
    repeat (first | go_values | go_skip | go_guarded | go_step | go_upon)
    with_reducible refine CutQ.go_ ?_
    with_reducible refine wpList_store_mid rfl 40 (.tmp 82) (.tmp 81) rfl (w.heap.size + 2) 31 (ftC e.fet).toArray (by kernel_rfl) (by kernel_rfl) (O'.bX.there 31 (ftC e.fet).toArray.size (of_decide_eq_true (by kernel_rfl))) (by kernel_rfl) (by kernel_rfl) (wpList_nil ?_)
    have O2 := O'.mid 31 (ftC e.fet).toArray.toList ({ only2 e with fet := e.fet } : EvtR) (by kernel_rfl)
    revert O2
    generalize w4.setCells (w.heap.size + 2) 31 (ftC e.fet).toArray.toList = w5
    intro O2
    clear a_31 a_32 a_33 a_34 a_35 a_36 a_37 x0 O'
    simp only [Act.put]
    repeat (first | go_values | go_skip | go_guarded | go_step | go_upon)
    have hX : ({ only2 e with fet := e.fet } : EvtR) = onlyR e := by unfold onlyR; simp [ek, only2, only1, only0, zEvtR]
    rw [hX] at O2
    with_reducible refine HK2.out _ _ ?_
    clear HK2 hX
    go_step
    go_step
  case' inr.inr.inr.inr.inr.inr.inr.inr.inr.inr.inr.inl =>
    rw [ek] at x0
    repeat (first | go_values | go_skip | go_guarded | go_step | go_upon)
    with_reducible refine HK.out _ _ ?_
    clear HK
    go_step
    rename_i K2 hK2
    have HK2 : Hid (∀ (a : Act) (w : World), _ → K2 a w) := hK2
    clear hK2
    have O' := (O.one 2 (.int .i64 e.node) (only1 e) rfl).one 3 (.int .i64 e.who) (only2 e) rfl
    revert O'
    generalize (w3.setCell ⟨w.heap.size + 2, 2, none⟩ (.int .i64 e.node)).setCell ⟨w.heap.size + 2, 3, none⟩ (.int .i64 e.who) = w4
    intro O'
    clear x0 x2 x3 c2 c3 f2 f3 O
    have x0 := O'.bE.at_ (i := 0) (v := .int .i64 12) (by rw [← ek]; rfl)
    go_upto_region 29 with (fail)
    have a_38 := O'.bE.at_ (i := 38) (v := .int .i64 e.rep.status) rfl
    have a_39 := O'.bE.at_ (i := 39) (v := .string (bstr e.rep.met.tag.text)) rfl
    have a_40 := O'.bE.at_ (i := 40) (v := .bool e.rep.met.tag.weak) rfl
    have a_41 := O'.bE.at_ (i := 41) (v := .int .i64 e.rep.met.modi) rfl
    have a_42 := O'.bE.at_ (i := 42) (v := .int .i64 e.rep.met.len) rfl
    have a_43 := O'.bE.at_ (i := 43) (v := .int .i64 e.rep.met.have_) rfl
    have a_44 := O'.bE.at_ (i := 44) (v := .int .i64 e.rep.met.fresh) rfl
    have a_45 := O'.bE.at_ (i := 45) (v := .int .i64 e.rep.met.while_) rfl
    have a_46 := O'.bE.at_ (i := 46) (v := .int .i64 e.rep.met.error) rfl
    have a_47 := O'.bE.at_ (i := 47) (v := e.rep.met.keys.val) rfl
    have a_48 := O'.bE.at_ (i := 48) (v := .string (bstr e.rep.met.tenant)) rfl
    have a_49 := O'.bE.at_ (i := 49) (v := .bool e.rep.met.keep) rfl
    have a_50 := O'.bE.at_ (i := 50) (v := .int .i64 e.rep.span.frm) rfl
    have a_51 := O'.bE.at_ (i := 51) (v := .int .i64 e.rep.span.to) rfl
    have a_52 := O'.bE.at_ (i := 52) (v := .int .i64 e.rep.age) rfl
    with_reducible refine wp_region_lit ?_
    with_reducible refine wpList_cutAt 3 ?_
    simp only [List.take_succ_cons, List.take_zero, List.drop_succ_cons, List.drop_zero]
    repeat (first | go_values | go_skip | go_guarded | go_step | go_upon)
    with_reducible refine CutQ.go_ ?_
    with_reducible refine wpList_store_mid rfl 42 (.tmp 87) (.tmp 86) rfl (w.heap.size + 2) 38 e.rep.cells.toArray (by kernel_rfl) (by kernel_rfl) (O'.bX.there 38 e.rep.cells.toArray.size (of_decide_eq_true (by kernel_rfl))) (by kernel_rfl) (by kernel_rfl) (wpList_nil ?_)
    have O2 := O'.mid 38 e.rep.cells.toArray.toList ({ only2 e with rep := e.rep } : EvtR) (by kernel_rfl)
    revert O2
    generalize w4.setCells (w.heap.size + 2) 38 e.rep.cells.toArray.toList = w5
    intro O2
    clear a_38 a_39 a_40 a_41 a_42 a_43 a_44 a_45 a_46 a_47 a_48 a_49 a_50 a_51 a_52 x0 O'
    simp only [Act.put]
    repeat (first | go_values | go_skip | go_guarded | go_step | go_upon)
    have hX : ({ only2 e with rep := e.rep } : EvtR) = onlyR e := by unfold onlyR; simp [ek, only2, only1, only0, zEvtR]
    rw [hX] at O2
    with_reducible refine HK2.out _ _ ?_
    clear HK2 hX
    go_step
    go_step
  case' inr.inr.inr.inr.inr.inr.inr.inr.inr.inr.inr.inr.inl =>
    rw [ek] at x0
    repeat (first | go_values | go_skip | go_guarded | go_step | go_upon)
    with_reducible refine HK.out _ _ ?_
    clear HK
    go_step
    rename_i K2 hK2
    have HK2 : Hid (∀ (a : Act) (w : World), _ → K2 a w) := hK2
    clear hK2
    have O' := (O.one 2 (.int .i64 e.node) (only1 e) rfl).one 3 (.int .i64 e.who) (only2 e) rfl
    revert O'
    generalize (w3.setCell ⟨w.heap.size + 2, 2, none⟩ (.int .i64 e.node)).setCell ⟨w.heap.size + 2, 3, none⟩ (.int .i64 e.who) = w4
    intro O'
    clear x0 x2 x3 c2 c3 f2 f3 O
    have x0 := O'.bE.at_ (i := 0) (v := .int .i64 13) (by rw [← ek]; rfl)
    go_upto_region 22 with (fail)
    have a_53 := O'.bE.at_ (i := 53) (v := .slice e.bytes.A e.bytes.l.length e.bytes.cap) rfl
    have z_53 := O'.bX.at_ (i := 53) (v := .slice none 0 0) rfl
    have f_53 := O'.bX.frozen 53
    repeat (first | go_values | go_skip | go_guarded | go_step | go_upon)
    have O2 := O'.one 53 (.slice e.bytes.A e.bytes.l.length e.bytes.cap) ({ only2 e with bytes := e.bytes } : EvtR) (by kernel_rfl)
    revert O2
    generalize w4.setCell ⟨w.heap.size + 2, 53, none⟩ (.slice e.bytes.A e.bytes.l.length e.bytes.cap) = w5
    intro O2
    clear a_53 z_53 f_53 x0 O'
    have hX : ({ only2 e with bytes := e.bytes } : EvtR) = onlyR e := by unfold onlyR; simp [ek, only2, only1, only0, zEvtR]
    rw [hX] at O2
    with_reducible refine HK2.out _ _ ?_
    clear HK2 hX
    go_step
    go_step
  case' inr.inr.inr.inr.inr.inr.inr.inr.inr.inr.inr.inr.inr.inl =>
    rw [ek] at x0
    repeat (first | go_values | go_skip | go_guarded | go_step | go_upon)
    with_reducible refine HK.out _ _ ?_
    clear HK
    go_step
    rename_i K2 hK2
    have HK2 : Hid (∀ (a : Act) (w : World), _ → K2 a w) := hK2
    clear hK2
    have O' := (O.one 2 (.int .i64 e.node) (only1 e) rfl).one 3 (.int .i64 e.who) (only2 e) rfl
    revert O'
    generalize (w3.setCell ⟨w.heap.size + 2, 2, none⟩ (.int .i64 e.node)).setCell ⟨w.heap.size + 2, 3, none⟩ (.int .i64 e.who) = w4
    intro O'
    clear x0 x2 x3 c2 c3 f2 f3 O
    have x0 := O'.bE.at_ (i := 0) (v := .int .i64 14) (by rw [← ek]; rfl)
    go_upto_region 25 with (fail)
    have a_56 := O'.bE.at_ (i := 56) (v := .bool e.whole) rfl
    have z_56 := O'.bX.at_ (i := 56) (v := .bool false) rfl
    have f_56 := O'.bX.frozen 56
    repeat (first | go_values | go_skip | go_guarded | go_step | go_upon)
    have O2 := O'.one 56 (.bool e.whole) ({ only2 e with whole := e.whole } : EvtR) (by kernel_rfl)
    revert O2
    generalize w4.setCell ⟨w.heap.size + 2, 56, none⟩ (.bool e.whole) = w5
    intro O2
    clear a_56 z_56 f_56 x0 O'
    have hX : ({ only2 e with whole := e.whole } : EvtR) = onlyR e := by unfold onlyR; simp [ek, only2, only1, only0, zEvtR]
    rw [hX] at O2
    with_reducible refine HK2.out _ _ ?_
    clear HK2 hX
    go_step
    go_step
  case' inr.inr.inr.inr.inr.inr.inr.inr.inr.inr.inr.inr.inr.inr.inl =>
    rw [ek] at x0
    repeat (first | go_values | go_skip | go_guarded | go_step | go_upon)
    with_reducible refine HK.out _ _ ?_
    clear HK
    go_step
    rename_i K2 hK2
    have HK2 : Hid (∀ (a : Act) (w : World), _ → K2 a w) := hK2
    clear hK2
    have O' := (O.one 2 (.int .i64 e.node) (only1 e) rfl).one 3 (.int .i64 e.who) (only2 e) rfl
    revert O'
    generalize (w3.setCell ⟨w.heap.size + 2, 2, none⟩ (.int .i64 e.node)).setCell ⟨w.heap.size + 2, 3, none⟩ (.int .i64 e.who) = w4
    intro O'
    clear x0 x2 x3 c2 c3 f2 f3 O
    have x0 := O'.bE.at_ (i := 0) (v := .int .i64 15) (by rw [← ek]; rfl)
    repeat (first | go_values | go_skip | go_guarded | go_step | go_upon)
    have O2 := O'
    clear x0 O'
    generalize w4 = w5 at *
    have hX : (only2 e) = onlyR e := by unfold onlyR; simp [ek, only2, only1, only0, zEvtR]
    rw [hX] at O2
    with_reducible refine HK2.out _ _ ?_
    clear HK2 hX
    go_step
    go_step
  case' inr.inr.inr.inr.inr.inr.inr.inr.inr.inr.inr.inr.inr.inr.inr =>
    rw [ek] at x0
    repeat (first | go_values | go_skip | go_guarded | go_step | go_upon)
    with_reducible refine HK.out _ _ ?_
    clear HK
    go_step
    rename_i K2 hK2
    have HK2 : Hid (∀ (a : Act) (w : World), _ → K2 a w) := hK2
    clear hK2
    have O' := O.one 2 (.int .i64 e.node) (only1 e) rfl
    revert O'
    generalize w3.setCell ⟨w.heap.size + 2, 2, none⟩ (.int .i64 e.node) = w4
    intro O'
    clear x0 x2 x3 c2 c3 f2 f3 O
    have x0 := O'.bE.at_ (i := 0) (v := .int .i64 16) (by rw [← ek]; rfl)
    repeat (first | go_values | go_skip | go_guarded | go_step | go_upon)
    have O2 := O'
    clear x0 O'
    generalize w4 = w5 at *
    have hX : (only1 e) = onlyR e := by unfold onlyR; simp [ek, only1, only0, zEvtR]
    rw [hX] at O2
    with_reducible refine HK2.out _ _ ?_
    clear HK2 hX
    go_step
    go_step
  all_goals
    (have bR' : w5.heap[w.heap.size + 1]? = some (Obj.cells zEvtR.cells.toArray 45) := O2.bR
     have bX' : w5.heap[w.heap.size + 2]? = some (Obj.cells (onlyR e).cells.toArray 45) := O2.bX
     with_reducible refine wpList_load_row rfl 45 (.tmp 3) rfl (w.heap.size + 2) (by kernel_rfl) 45 (onlyR e).cells.toArray (0, 0) _ bX' Tryz.underlying45 (by kernel_rfl) (by kernel_rfl) ?_
     go_frame
     with_reducible refine wpList_store_row rfl 45 (.tmp 2) (.tmp 88) rfl (w.heap.size + 1) (onlyR e).cells.toArray (by kernel_rfl) (by kernel_rfl) 45 zEvtR.cells.toArray bR' (by kernel_rfl) (by kernel_rfl) (by kernel_rfl) (wpList_nil ?_)
     have bT : (w5.setRow (w.heap.size + 1) (onlyR e).cells.toArray).heap[w.heap.size + 1]? = some (Obj.cells (onlyR e).cells.toArray 45) := O2.bR.setRow_ _
     have BT := below_setRow O2.B (Nat.le_add_right w.heap.size 1) (onlyR e).cells.toArray
     clear O2 bR' bX'
     simp only [Act.put]
     repeat go_step
     (try simp only [Exit.inBlock, Exit.then])
     refine bodyPost_ret (results_cell_row rfl _ _ (w.heap.size + 1) 45 (onlyR e).cells.toArray (0, 0) _ (by kernel_rfl) bT Tryz.underlying45 (by kernel_rfl) (by kernel_rfl)) rfl ?_
     exact ⟨rfl, BT⟩)
end Go.Proofs.YtiokbebodblhaaaGreatDoor
