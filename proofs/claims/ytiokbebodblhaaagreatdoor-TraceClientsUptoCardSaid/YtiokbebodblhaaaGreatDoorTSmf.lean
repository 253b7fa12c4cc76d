/-
  Walk: Small: where it says yes the events are few, and none is long. Printed by smallgen.py.
-/
import Derived.Test.YtiokbebodblhaaaGreatDoorTSm
import Derived.Test.YtiokbebodblhaaaGreatDoorTOp
import Derived.Test.YtiokbebodblhaaaGreatDoorTraceDl
import Derived.Test.YtiokbebodblhaaaGreatDoorTraceLs
import Derived.Test.YtiokbebodblhaaaGreatDoorTPl
import Derived.Deep.RegionHeldLaw
import Derived.Test.YtiokbebodblhaaaGreatDoorTTx
namespace Go.Proofs.YtiokbebodblhaaaGreatDoor
open Go.RowKit TraceP
attribute [local go_sem] Row.val

/-- append of what can be read onto a row of the call's own, as one step of a region that draws. -/
theorem step_app {P : Program} {w : World} {base : Nat} {t e : TypeId} {z : Value} {size bytes n m c : Nat} {v : Value} {xs news : List Value} {A : Option Addr} {ops : Array Oper} {o : Oper} {a : Act} {K : Act → World → Prop} {Q : Exit → Act → World → Prop} {E : Prop}
    (El0 : El P t e z size bytes) (hg : o.guard = none) (s x : Operand)
    (ho : o.op = .call { callee := .builtin .append, args := #[s, x], argTypes := #[t, t] })
    (hs : a.eval s = v) (hown : w.ownsRow base e size v n xs)
    (hx : a.eval x = .slice A m c) (hl : news.length = m * size) (hr : RV w A news) (h1 : ∀ u ∈ news, u.oneCell' = true)
    (h63 : n + m ≤ maxLen) (hbytes : (n + m) * bytes ≤ 140737488355328) (hbase : base ≤ w.heap.size)
    (hK : ∀ v' w', w'.ownsRow base e size v' (n + m) (xs ++ news) → w.grownBy w' v.ownBlock → (v'.ownBlock = v.ownBlock ∨ v'.ownBlock = some w.heap.size) → K (a.put o.dst v') w') :
    if Region.wanted o (yielded ops a.tmps) = true then Oper.wp P o a w K Q else E := by
  have hw : Region.wanted o (yielded ops a.tmps) = true := by simp [Region.wanted, hg]
  rw [if_pos hw]
  obtain ⟨v', w', hrun, h2, h3, h4⟩ := run_append_rv (P := P) (w := w) (ty := o.type) (c := c) El0 hown hl hr h1 h63 hbytes hbase
  unfold Oper.wp execOp
  simp only [ho, resolve, invoke, builtin, Sem.run_bind, Sem.run_pure, Result.andThen_ok, List.map_toArray, List.map_cons, List.map_nil, hs, hx, hrun]
  exact hK _ _ h2 h3 h4
/-- What Small bounds. -/
def SmT (t : Txt) : Prop := t.length ≤ 30000
def SmL {α : Type} (p : α → Prop) (l : List α) : Prop := l.length ≤ 30000 ∧ ∀ a ∈ l, p a
structure SmE (e : Evt) : Prop where
  object : SmT e.object
  robj : SmT e.req.object
  specs : e.req.specs.length ≤ 30000
  mtch : SmL (fun t => SmT t.text) e.req.cond.mtch
  non : SmL (fun t => SmT t.text) e.req.cond.non
  range : SmT e.req.cond.range.text
  tag : SmT e.met.tag.text
  mkeys : SmL SmT e.met.keys
  tenant : SmT e.met.tenant
  fields : SmL (fun f => SmT f.name ∧ SmT f.value) e.ans.fields
  parts : SmL (fun p => SmT p.text) e.ans.parts
  fobj : SmT e.fet.object
  fmat : SmT e.fet.mtch.text
  fnon : SmT e.fet.non.text
  rtag : SmT e.rep.met.tag.text
  rkeys : SmL SmT e.rep.met.keys
  rten : SmT e.rep.met.tenant
  bytes : SmT e.bytes
  keys : SmL SmT e.keys
theorem SmT.sh {t : Txt} (h : SmT t) : ShT t := by unfold SmT at h; unfold ShT; omega
theorem wr_add {A B : Nat} (hA : A ≤ 1000000000000000) (hB : B ≤ 1000000000000000) : wrap64 ((A : Int) + (B : Int)) = ((A + B : Nat) : Int) := by
  unfold wrap64
  omega
theorem wr_nine {A : Nat} (hA : A ≤ 1000000000000000) : wrap64 (9 * (A : Int)) = ((9 * A : Nat) : Int) := by
  unfold wrap64
  omega
theorem small_sum (N b0 b1 b2 b3 b4 b5 b6 b7 b8 b9 b10 b11 : Nat) (hN : N ≤ 30000) (h0 : b0 ≤ 1048576) (h1 : b1 ≤ 1048576) (h2 : b2 ≤ 1048576) (h3 : b3 ≤ 1048576) (h4 : b4 ≤ 1048576) (h5 : b5 ≤ 1048576) (h6 : b6 ≤ 1048576) (h7 : b7 ≤ 1048576) (h8 : b8 ≤ 1048576) (h9 : b9 ≤ 1048576) (h10 : b10 ≤ 1048576) (h11 : b11 ≤ 1048576) :
    wrap64 (wrap64 (wrap64 (wrap64 (wrap64 (wrap64 (wrap64 (wrap64 (wrap64 (wrap64 (wrap64 (wrap64 ((N : Int) + (b0 : Int)) + (b1 : Int)) + (b2 : Int)) + wrap64 (9 * (b3 : Int))) + (b4 : Int)) + (b5 : Int)) + (b6 : Int)) + (b7 : Int)) + (b8 : Int)) + (b9 : Int)) + (b10 : Int)) + (b11 : Int)) =
      ((N + b0 + b1 + b2 + 9 * b3 + b4 + b5 + b6 + b7 + b8 + b9 + b10 + b11 : Nat) : Int) := by
  rw [wr_nine (by omega), wr_add (by omega) (by omega), wr_add (by omega) (by omega), wr_add (by omega) (by omega), wr_add (by omega) (by omega), wr_add (by omega) (by omega), wr_add (by omega) (by omega), wr_add (by omega) (by omega), wr_add (by omega) (by omega), wr_add (by omega) (by omega), wr_add (by omega) (by omega), wr_add (by omega) (by omega), wr_add (by omega) (by omega)]
theorem small_bd (N b0 b1 b2 b3 b4 b5 b6 b7 b8 b9 b10 b11 : Nat) (hN : N ≤ 30000) (h0 : b0 ≤ 1048576) (h1 : b1 ≤ 1048576) (h2 : b2 ≤ 1048576) (h3 : b3 ≤ 1048576) (h4 : b4 ≤ 1048576) (h5 : b5 ≤ 1048576) (h6 : b6 ≤ 1048576) (h7 : b7 ≤ 1048576) (h8 : b8 ≤ 1048576) (h9 : b9 ≤ 1048576) (h10 : b10 ≤ 1048576) (h11 : b11 ≤ 1048576) :
    N + b0 + b1 + b2 + 9 * b3 + b4 + b5 + b6 + b7 + b8 + b9 + b10 + b11 ≤ 30000000 := by omega
theorem wr_two {M t : Nat} (hM : M ≤ 100000000000000) (ht : t ≤ 1048576) : wrap64 (wrap64 ((M : Int) + 9) + (t : Int)) = ((M + 9 + t : Nat) : Int) := by
  rw [show ((M : Int) + 9) = (M : Int) + ((9 : Nat) : Int) from rfl, wr_add (by omega) (by omega), wr_add (by omega) (by omega)]
theorem wr_three {M t u : Nat} (hM : M ≤ 100000000000000) (ht : t ≤ 1048576) (hu : u ≤ 1048576) : wrap64 (wrap64 (wrap64 ((M : Int) + 9) + (t : Int)) + (u : Int)) = ((M + 9 + (t + u) : Nat) : Int) := by
  rw [wr_two hM ht, wr_add (by omega) (by omega), Nat.add_assoc (M + 9)]
/-- How far a count has come behind j things of at most 2097161 each. -/
structure Cnt {α : Type} (N M : Nat) (sz : α → Nat) (l : List α) : Prop where
  lo : N + 9 * l.length ≤ M
  hi : M ≤ N + l.length * 2097161
  each : ∀ a ∈ l, sz a ≤ M
theorem Cnt.nil {α : Type} (N : Nat) (sz : α → Nat) : Cnt N N sz ([] : List α) := ⟨by simp, by simp, by simp⟩
theorem Cnt.snoc {α : Type} {N M : Nat} {sz : α → Nat} {l : List α} (h : Cnt N M sz l) (a : α) (ha : sz a ≤ 2097152) : Cnt N (M + 9 + sz a) sz (l ++ [a]) := by
  obtain ⟨h1, h2, h3⟩ := h
  refine ⟨by simp; omega, by simp; omega, fun x hx => ?_⟩
  rcases List.mem_append.1 hx with hx | hx
  · have := h3 x hx; omega
  · obtain rfl : x = a := by simpa using hx
    omega
theorem Cnt.mem {α : Type} {N M : Nat} {sz : α → Nat} {l : List α} (h : Cnt N M sz l) (hM : M ≤ 30000) {p : α → Prop} (hp : ∀ a, sz a ≤ 30000 → p a) {l' : List α} (hs : l'.Sublist l) : SmL p l' :=
  ⟨by have := hs.length_le; have := h.lo; omega, fun a ha => hp a (Nat.le_trans (h.each a (hs.subset ha)) hM)⟩
theorem small_end (x : EvtR) {N N1 N2 N3 N4 N5 : Nat} (h1 : N1 = N + x.bytes.l.length + x.object.length + x.req.object.length + 9 * x.req.specs.l.length + x.fet.object.length + x.met.tenant.length + x.rep.met.tenant.length + x.fet.mtch.text.length + x.fet.non.text.length + x.met.tag.text.length + x.rep.met.tag.text.length + x.req.range.text.length)
    (c1 : Cnt N1 N2 (fun t : Txt => t.length) (x.keys.l ++ x.met.keys.l ++ x.rep.met.keys.l)) (c2 : Cnt N2 N3 (fun t : Tag => t.text.length) (x.req.mtch.l ++ x.req.non.l)) (c3 : Cnt N3 N4 (fun f : Fld => f.name.length + f.value.length) x.ans.fields.l) (c4 : Cnt N4 N5 (fun p : Prt => p.text.length) x.ans.parts.l) (h : N5 ≤ 30000) : SmE x.abs := by
  have e1 := c1.lo
  have e2 := c2.lo
  have e3 := c3.lo
  have e4 := c4.lo
  have b2 : N2 ≤ 30000 := by omega
  have b3 : N3 ≤ 30000 := by omega
  have b4 : N4 ≤ 30000 := by omega
  have T : ∀ t : Txt, t.length ≤ N1 → SmT t := fun t ht => by unfold SmT; omega
  refine ⟨T x.object (by omega), T x.req.object (by omega), ?_, c2.mem b3 (fun _ q => q) (List.sublist_append_left _ _), c2.mem b3 (fun _ q => q) (List.sublist_append_right _ _), T x.req.range.text (by omega), T x.met.tag.text (by omega), c1.mem b2 (fun _ q => q) ((List.sublist_append_right _ _).trans (List.sublist_append_left _ _)), T x.met.tenant (by omega), c3.mem b4 (fun f q => ⟨by unfold SmT; omega, by unfold SmT; omega⟩) (List.Sublist.refl _), c4.mem h (fun _ q => q) (List.Sublist.refl _), T x.fet.object (by omega), T x.fet.mtch.text (by omega), T x.fet.non.text (by omega), T x.rep.met.tag.text (by omega), c1.mem b2 (fun _ q => q) (List.sublist_append_right _ _), T x.rep.met.tenant (by omega), T x.bytes.l (by omega), c1.mem b2 (fun _ q => q) ((List.sublist_append_left _ _).trans (List.sublist_append_left _ _))⟩
  show x.req.specs.l.length ≤ 30000
  omega
set_option maxRecDepth 100000 in
set_option maxHeartbeats 6400000 in
theorem small_calls (w : World) (A : Option Addr) (c : Nat) (l : List EvtR) (hr : EvsOK w A l c) (hb : ∀ e ∈ l, BigE e.abs) (most : Nat) (hm : most ≤ 1000) :
    Calls Tryz.prog 12 #[.slice A l.length c, .int .i64 (most : Int)] w fun r w' => ∃ b : Bool, r = .returned (.bool b) ∧ (b = true → l.length ≤ most ∧ ∀ e ∈ l, SmE e.abs) ∧ Below w.heap.size w w' := by
  have lmax : l.length ≤ 9223372036854775807 := Nat.le_trans hr.le hr.cap
  go_enter Tryz.func12, Tryz.ntmps12
  by_cases hl : most < l.length
  · have d0 : decide ((most : Int) < (l.length : Int)) = true := decide_eq_true (by omega)
    go_wp2_with fail
    go_ret
    exact ⟨false, rfl, (fun h => by cases h), Below.refl _ _⟩
  have d0 : decide ((most : Int) < (l.length : Int)) = false := decide_eq_false (by omega)
  go_wp2_with fail
  go_loopw [22, 5] (fun i n wr => ∃ k N : Nat, k ≤ l.length ∧ i = .int .i64 (k : Int) ∧ n = .int .i64 (N : Int) ∧ Hid (N ≤ 30000 ∧ ∀ e ∈ l.take k, SmE e.abs) ∧ Below w.heap.size w wr) (fun i _ _ => l.length - (intOf i).toNat)
  case atStart => exact ⟨0, 0, by omega, rfl, rfl, Lib.hid ⟨by omega, by simp⟩, Below.refl _ _⟩
  obtain ⟨k, N, hk, rfl, rfl, hN, B⟩ := hrel
  by_cases hlt : k < l.length
  case neg =>
    obtain rfl : k = l.length := by omega
    have dec : decide ((l.length : Int) < (l.length : Int)) = false := decide_eq_false (by omega)
    go_wp2_with fail
    go_ret
    exact ⟨true, rfl, (fun _ => ⟨by omega, fun e he => hN.out.2 e (by rwa [List.take_length])⟩), B⟩
  have dec : decide ((k : Int) < (l.length : Int)) = true := decide_eq_true (by omega)
  have dec' : decide (k < l.length) = true := decide_eq_true hlt
  obtain ⟨b, off, rfl, hbs, hc⟩ := evt_at (hr.rv.below B) hlt
  have ox := ((hr.ok _ (List.getElem_mem hlt)).below B)
  have bx := Lib.hid (hb _ (List.getElem_mem hlt))
  have ht : Hid (l.take (k + 1) = l.take k ++ [l[k]]) := Lib.hid (List.take_succ_eq_append_getElem hlt)
  generalize l[k] = x at *
  go_upto_region 6 with fail
  with_reducible refine wp_region_lit ?_
  with_reducible refine wpList_cutAt 1 ?_
  simp only [List.take_succ_cons, List.take_zero, List.drop_succ_cons, List.drop_zero]
  go_wp2_with fail
  with_reducible refine CutQ.go_ ?_
  with_reducible refine wpList_load_mid rfl 45 (.tmp 24) rfl b (off + k * 57) (by kernel_rfl) x.cells _ hc Tryz.underlying45 (by kernel_rfl) (by kernel_rfl) ?_
  go_frame
  with_reducible refine wpList_cutAt 1 ?_
  simp only [List.take_succ_cons, List.take_zero, List.drop_succ_cons, List.drop_zero]
  repeat (first | go_values | go_skip | go_guarded | go_step | go_upon)
  with_reducible refine CutQ.go_ ?_
  with_reducible refine wpList_abs (fun w' => Blk w' wr.heap.size 45 zEvtR.cells.toArray ∧ Below wr.heap.size wr w') ?_ ?_
  · exact ⟨Blk.new wr 45 zEvtR.cells.toArray, below_new wr (.cells zEvtR.cells.toArray 45)⟩
  rintro wA0 ⟨bE0, dE0⟩
  have bE' : wA0.heap[wr.heap.size]? = some (Obj.cells zEvtR.cells.toArray 45) := bE0
  with_reducible refine wpList_store_row rfl 45 (.tmp 7) (.tmp 25) rfl wr.heap.size x.cells.toArray (by kernel_rfl) (by kernel_rfl) 45 zEvtR.cells.toArray bE' (by kernel_rfl) (by kernel_rfl) (by kernel_rfl) (wpList_nil ?_)
  have bE := bE0.setRow_ x.cells.toArray
  have dE := below_setRow dE0 (Nat.le_refl _) x.cells.toArray
  revert bE dE
  generalize wA0.setRow wr.heap.size x.cells.toArray = wA
  clear bE' bE0 dE0 wA0
  intro bE dE
  simp only [Act.put]
  replace ox := ox.below dE
  have B2 := B.trans (dE.mono B.size)
  clear hc hbs B dE hr
  obtain ⟨g, hg⟩ : ∃ g, g = wr.heap.size := ⟨_, rfl⟩
  rw [← hg] at bE ⊢
  clear hg
  go_upto_region 7 with fail
  have c53 := bE.at_ (i := 53) (v := .slice x.bytes.A x.bytes.l.length x.bytes.cap) rfl
  have c4 := bE.at_ (i := 4) (v := .string (bstr x.object)) rfl
  have c6 := bE.at_ (i := 6) (v := .string (bstr x.req.object)) rfl
  have c7 := bE.at_ (i := 7) (v := .slice x.req.specs.A x.req.specs.l.length x.req.specs.cap) rfl
  have c31 := bE.at_ (i := 31) (v := .string (bstr x.fet.object)) rfl
  have c25 := bE.at_ (i := 25) (v := .string (bstr x.met.tenant)) rfl
  have c48 := bE.at_ (i := 48) (v := .string (bstr x.rep.met.tenant)) rfl
  have c34 := bE.at_ (i := 34) (v := .string (bstr x.fet.mtch.text)) rfl
  have c36 := bE.at_ (i := 36) (v := .string (bstr x.fet.non.text)) rfl
  have c16 := bE.at_ (i := 16) (v := .string (bstr x.met.tag.text)) rfl
  have c39 := bE.at_ (i := 39) (v := .string (bstr x.rep.met.tag.text)) rfl
  have c14 := bE.at_ (i := 14) (v := .string (bstr x.req.range.text)) rfl
  have z4 : (bstr x.object).size = x.object.length := rfl
  have z6 : (bstr x.req.object).size = x.req.object.length := rfl
  have z31 : (bstr x.fet.object).size = x.fet.object.length := rfl
  have z25 : (bstr x.met.tenant).size = x.met.tenant.length := rfl
  have z48 : (bstr x.rep.met.tenant).size = x.rep.met.tenant.length := rfl
  have z34 : (bstr x.fet.mtch.text).size = x.fet.mtch.text.length := rfl
  have z36 : (bstr x.fet.non.text).size = x.fet.non.text.length := rfl
  have z16 : (bstr x.met.tag.text).size = x.met.tag.text.length := rfl
  have z39 : (bstr x.rep.met.tag.text).size = x.rep.met.tag.text.length := rfl
  have z14 : (bstr x.req.range.text).size = x.req.range.text.length := rfl
  simp only [List.append]
  with_reducible refine wp_region_bare ?_
  simp only [List.map_cons, List.map_nil, bareOp]
  repeat (first | go_values | go_skip | go_guarded | go_step | go_upon)
  clear c53 c4 c6 c7 c31 c25 c48 c34 c36 c16 c39 c14 z4 z6 z31 z25 z48 z34 z36 z16 z39 z14
  rw [small_sum N x.bytes.l.length x.object.length x.req.object.length x.req.specs.l.length x.fet.object.length x.met.tenant.length x.rep.met.tenant.length x.fet.mtch.text.length x.fet.non.text.length x.met.tag.text.length x.rep.met.tag.text.length x.req.range.text.length hN.out.1 bx.out.bytes bx.out.object bx.out.robj bx.out.specs bx.out.fobj bx.out.tenant bx.out.rten bx.out.fmat bx.out.fnon bx.out.tag bx.out.rtag bx.out.range]
  obtain ⟨N1, hN1⟩ : ∃ N1 : Nat, N1 = N + x.bytes.l.length + x.object.length + x.req.object.length + 9 * x.req.specs.l.length + x.fet.object.length + x.met.tenant.length + x.rep.met.tenant.length + x.fet.mtch.text.length + x.fet.non.text.length + x.met.tag.text.length + x.rep.met.tag.text.length + x.req.range.text.length := ⟨_, rfl⟩
  rw [← hN1]
  have HN1 : Hid (N1 = N + x.bytes.l.length + x.object.length + x.req.object.length + 9 * x.req.specs.l.length + x.fet.object.length + x.met.tenant.length + x.rep.met.tenant.length + x.fet.mtch.text.length + x.fet.non.text.length + x.met.tag.text.length + x.rep.met.tag.text.length + x.req.range.text.length) := Lib.hid hN1
  have HB1 : Hid (N1 ≤ 30000000) := Lib.hid (hN1 ▸ small_bd N x.bytes.l.length x.object.length x.req.object.length x.req.specs.l.length x.fet.object.length x.met.tenant.length x.rep.met.tenant.length x.fet.mtch.text.length x.fet.non.text.length x.met.tag.text.length x.rep.met.tag.text.length x.req.range.text.length hN.out.1 bx.out.bytes bx.out.object bx.out.robj bx.out.specs bx.out.fobj bx.out.tenant bx.out.rten bx.out.fmat bx.out.fnon bx.out.tag bx.out.rtag bx.out.range)
  clear hN1
  have c54 := bE.at_ (i := 54) (v := .slice x.keys.A x.keys.l.length x.keys.cap) rfl
  have c24 := bE.at_ (i := 24) (v := .slice x.met.keys.A x.met.keys.l.length x.met.keys.cap) rfl
  have c47 := bE.at_ (i := 47) (v := .slice x.rep.met.keys.A x.rep.met.keys.l.length x.rep.met.keys.cap) rfl
  have e54 : ∀ o, (wA.drew.alloc o).cell? ⟨g, 54, none⟩ = some (.slice x.keys.A x.keys.l.length x.keys.cap) := fun o => (bE.drew.alloc o).at_ rfl
  have e24 : ∀ o, (wA.drew.alloc o).cell? ⟨g, 24, none⟩ = some (.slice x.met.keys.A x.met.keys.l.length x.met.keys.cap) := fun o => (bE.drew.alloc o).at_ rfl
  have e47 : ∀ o, (wA.drew.alloc o).cell? ⟨g, 47, none⟩ = some (.slice x.rep.met.keys.A x.rep.met.keys.l.length x.rep.met.keys.cap) := fun o => (bE.drew.alloc o).at_ rfl
  have R54 := ox.keys
  have l54 : x.keys.l.length ≤ 1048576 := bx.out.keys.1
  have R24 := ox.met.keys
  have l24 : x.met.keys.l.length ≤ 1048576 := bx.out.mkeys.1
  have R47 := ox.rep.met.keys
  have l47 : x.rep.met.keys.l.length ≤ 1048576 := bx.out.rkeys.1
  go_region_held_law (fun wq => wq.cell? ⟨g, 54, none⟩ = some (.slice x.keys.A x.keys.l.length x.keys.cap) ∧ wq.cell? ⟨g, 24, none⟩ = some (.slice x.met.keys.A x.met.keys.l.length x.met.keys.cap) ∧ wq.cell? ⟨g, 47, none⟩ = some (.slice x.rep.met.keys.A x.rep.met.keys.l.length x.rep.met.keys.cap)) (first | exact ⟨c54, c24, c47⟩ | exact ⟨e54 _, e24 _, e47 _⟩ | exact ⟨k54_0, k24_0, k47_0⟩ | exact ⟨k54_1, k24_1, k47_1⟩ | exact ⟨k54_2, k24_2, k47_2⟩ | fail) (first | (refine step_app (A := x.keys.A) (m := x.keys.l.length) (c := x.keys.cap) (v := .slice (some ⟨wA.heap.size, 0, none⟩) 0 0) (n := 0) (base := wA.heap.size) (xs := []) (news := fl txC x.keys.l) el_string rfl (.tmp 94) (.tmp 96) rfl rfl (own_empty wA.drew 9 1 (Nat.le_refl _)) rfl (by rw [fl_len txC_len]) ((R54.rv.drew).alloc _) (fl_oneCell txC_one _) (by unfold maxLen; omega) (by omega) (by simp) ?_; intro v0 w0 own0 gr0 hv0; replace own0 : w0.ownsRow wA.heap.size 9 1 v0 (x.keys.l.length) (fl txC (x.keys.l)) := (by simpa [fl_append] using own0); have d0 : Below wA.heap.size wA w0 := ((Below.refl _ _).drew.alloc (Nat.le_refl _) _).grown gr0 (by simp) (fun k hk => Nat.le_of_eq (Option.some.inj hk)); have k54_0 := (bE.below d0 bE.lt).at_ (i := 54) (v := .slice x.keys.A x.keys.l.length x.keys.cap) rfl; have k24_0 := (bE.below d0 bE.lt).at_ (i := 24) (v := .slice x.met.keys.A x.met.keys.l.length x.met.keys.cap) rfl; have k47_0 := (bE.below d0 bE.lt).at_ (i := 47) (v := .slice x.rep.met.keys.A x.rep.met.keys.l.length x.rep.met.keys.cap) rfl) | (refine step_app (A := x.met.keys.A) (m := x.met.keys.l.length) (c := x.met.keys.cap) (v := v0) (n := (x.keys.l.length)) (base := wA.heap.size) (xs := (fl txC (x.keys.l))) (news := fl txC x.met.keys.l) el_string rfl (.tmp 97) (.tmp 100) rfl rfl own0 rfl (by rw [fl_len txC_len]) (R24.rv.below d0) (fl_oneCell txC_one _) (by unfold maxLen; omega) (by omega) d0.size ?_; intro v1 w1 own1 gr1 hv1; replace own1 : w1.ownsRow wA.heap.size 9 1 v1 (x.keys.l.length + x.met.keys.l.length) (fl txC (x.keys.l ++ x.met.keys.l)) := (by simpa [fl_append] using own1); have d1 : Below wA.heap.size wA w1 := d0.grown gr1 d0.size (fun k hk => (own0.lt k hk).1); have k54_1 := (bE.below d1 bE.lt).at_ (i := 54) (v := .slice x.keys.A x.keys.l.length x.keys.cap) rfl; have k24_1 := (bE.below d1 bE.lt).at_ (i := 24) (v := .slice x.met.keys.A x.met.keys.l.length x.met.keys.cap) rfl; have k47_1 := (bE.below d1 bE.lt).at_ (i := 47) (v := .slice x.rep.met.keys.A x.rep.met.keys.l.length x.rep.met.keys.cap) rfl) | (refine step_app (A := x.rep.met.keys.A) (m := x.rep.met.keys.l.length) (c := x.rep.met.keys.cap) (v := v1) (n := (x.keys.l.length + x.met.keys.l.length)) (base := wA.heap.size) (xs := (fl txC (x.keys.l ++ x.met.keys.l))) (news := fl txC x.rep.met.keys.l) el_string rfl (.tmp 101) (.tmp 105) rfl rfl own1 rfl (by rw [fl_len txC_len]) (R47.rv.below d1) (fl_oneCell txC_one _) (by unfold maxLen; omega) (by omega) d1.size ?_; intro v2 w2 own2 gr2 hv2; replace own2 : w2.ownsRow wA.heap.size 9 1 v2 (x.keys.l.length + x.met.keys.l.length + x.rep.met.keys.l.length) (fl txC (x.keys.l ++ x.met.keys.l ++ x.rep.met.keys.l)) := (by simpa [fl_append] using own2); have d2 : Below wA.heap.size wA w2 := d1.grown gr2 d1.size (fun k hk => (own1.lt k hk).1); have k54_2 := (bE.below d2 bE.lt).at_ (i := 54) (v := .slice x.keys.A x.keys.l.length x.keys.cap) rfl; have k24_2 := (bE.below d2 bE.lt).at_ (i := 24) (v := .slice x.met.keys.A x.met.keys.l.length x.met.keys.cap) rfl; have k47_2 := (bE.below d2 bE.lt).at_ (i := 47) (v := .slice x.rep.met.keys.A x.rep.met.keys.l.length x.rep.met.keys.cap) rfl; obtain ⟨AK, cK, hvf, _, _⟩ := own_form own2; subst hvf) | fail)
  go_simp
  obtain ⟨LK, hLK⟩ : ∃ L : List Txt, L = x.keys.l ++ x.met.keys.l ++ x.rep.met.keys.l := ⟨_, rfl⟩
  have hnK : x.keys.l.length + x.met.keys.l.length + x.rep.met.keys.l.length = LK.length := by rw [hLK]; simp; omega
  rw [← hLK, hnK] at own2
  have hnKi : (x.keys.l.length : Int) + (x.met.keys.l.length : Int) + (x.rep.met.keys.l.length : Int) = (LK.length : Int) := by omega
  simp only [hnK, hnKi]
  have rK := RV.of_own own2
  have wK : ∀ t ∈ LK, BigT t := by
    intro t ht
    rw [hLK] at ht
    rcases List.mem_append.1 ht with ht | ht
    · rcases List.mem_append.1 ht with ht | ht
      · exact bx.out.keys.2 t ht
      · exact bx.out.mkeys.2 t ht
    · exact bx.out.rkeys.2 t ht
  have HLK := Lib.hid hLK
  have HnK : Hid (LK.length ≤ 3145728) := Lib.hid (by omega)
  have lKm : LK.length ≤ 9223372036854775807 := by omega
  clear hLK hnK hnKi own2 l54 l24 l47 R54 R24 R47 c54 c24 c47 e54 e24 e47
  go_wp2_with fail
  go_loopw [108, 5] (fun i n wq => ∃ j M : Nat, j ≤ LK.length ∧ i = .int .i64 (j : Int) ∧ n = .int .i64 (M : Int) ∧ Hid (Cnt N1 M (fun t : Txt => t.length) (LK.take j)) ∧ Below w2.heap.size w2 wq) (fun i _ _ => LK.length - (intOf i).toNat)
  case atStart => exact ⟨0, N1, by omega, rfl, rfl, Lib.hid (Cnt.nil _ _), Below.refl _ _⟩
  obtain ⟨j, M, hj, rfl, rfl, hM, Bq⟩ := hrel
  by_cases hjt : j < LK.length
  case pos =>
    have decj : decide ((j : Int) < (LK.length : Int)) = true := decide_eq_true (by omega)
    have decj' : decide (j < LK.length) = true := decide_eq_true hjt
    obtain ⟨bk, ok, rfl, hbk, hck⟩ := fl_elem txC_len (by decide) (rK.below Bq) hjt
    have ck := hck 0 _ rfl
    rw [Nat.mul_one, Nat.add_zero] at ck
    have htj : Hid (LK.take (j + 1) = LK.take j ++ [LK[j]]) := Lib.hid (List.take_succ_eq_append_getElem hjt)
    have btj : LK[j].length ≤ 1048576 := wK _ (List.getElem_mem hjt)
    replace ck : wr.cell? ⟨bk, ok + j, none⟩ = some (.string (bstr LK[j])) := ck
    generalize LK[j] = tj at *
    have hzj : (bstr tj).size = tj.length := rfl
    have hMb : M ≤ 100000000000000 := by
      have h1 := hM.out.hi
      have h2 := HB1.out
      have h3 : (LK.take j).length ≤ j := by rw [List.length_take]; omega
      have h4 := HnK.out
      omega
    replace hMb := Lib.hid hMb
    replace btj := Lib.hid btj
    clear hck
    go_wp2_with fail
    go_roundw
    case rel => exact ⟨j + 1, M + 9 + tj.length, by omega, by go_num, congrArg (Value.int .i64) (wr_two hMb.out btj.out), Lib.hid (by rw [htj.out]; exact hM.out.snoc tj (by have := btj.out; omega)), Bq⟩
    case measure => simp [intOf]; omega
  obtain rfl : j = LK.length := by omega
  have decj : decide ((LK.length : Int) < (LK.length : Int)) = false := decide_eq_false (by omega)
  rw [List.take_length] at hM
  go_upto_region 13 with fail
  replace bE := (bE.below d2 bE.lt).below Bq (Nat.lt_of_lt_of_le bE.lt d2.size)
  replace ox := (ox.below d2).below Bq
  replace B2 := B2.trans ((d2.mono B2.size).trans (Bq.mono (B2.trans (d2.mono B2.size)).size))
  clear rK wK d2 d1 d0 gr0 gr1 gr2 hv0 hv1 hv2 own0 own1
  have c8 := bE.at_ (i := 8) (v := .slice x.req.mtch.A x.req.mtch.l.length x.req.mtch.cap) rfl
  have c9 := bE.at_ (i := 9) (v := .slice x.req.non.A x.req.non.l.length x.req.non.cap) rfl
  have e8 : ∀ o, (wr.drew.alloc o).cell? ⟨g, 8, none⟩ = some (.slice x.req.mtch.A x.req.mtch.l.length x.req.mtch.cap) := fun o => (bE.drew.alloc o).at_ rfl
  have e9 : ∀ o, (wr.drew.alloc o).cell? ⟨g, 9, none⟩ = some (.slice x.req.non.A x.req.non.l.length x.req.non.cap) := fun o => (bE.drew.alloc o).at_ rfl
  have R8 := ox.req.mtch
  have l8 : x.req.mtch.l.length ≤ 1048576 := bx.out.mtch.1
  have R9 := ox.req.non
  have l9 : x.req.non.l.length ≤ 1048576 := bx.out.non.1
  go_region_held_law (fun wq => wq.cell? ⟨g, 8, none⟩ = some (.slice x.req.mtch.A x.req.mtch.l.length x.req.mtch.cap) ∧ wq.cell? ⟨g, 9, none⟩ = some (.slice x.req.non.A x.req.non.l.length x.req.non.cap)) (first | exact ⟨c8, c9⟩ | exact ⟨e8 _, e9 _⟩ | exact ⟨k8_0, k9_0⟩ | exact ⟨k8_1, k9_1⟩ | fail) (first | (refine step_app (A := x.req.mtch.A) (m := x.req.mtch.l.length) (c := x.req.mtch.cap) (v := .slice (some ⟨wr.heap.size, 0, none⟩) 0 0) (n := 0) (base := wr.heap.size) (xs := []) (news := fl tgC x.req.mtch.l) el_tag rfl (.tmp 118) (.tmp 122) rfl rfl (own_empty wr.drew 25 2 (Nat.le_refl _)) rfl (by rw [fl_len tgC_len]) ((R8.rv.drew).alloc _) (fl_oneCell tgC_one _) (by unfold maxLen; omega) (by omega) (by simp) ?_; intro v0 w0 own0 gr0 hv0; replace own0 : w0.ownsRow wr.heap.size 25 2 v0 (x.req.mtch.l.length) (fl tgC (x.req.mtch.l)) := (by simpa [fl_append] using own0); have d0 : Below wr.heap.size wr w0 := ((Below.refl _ _).drew.alloc (Nat.le_refl _) _).grown gr0 (by simp) (fun k hk => Nat.le_of_eq (Option.some.inj hk)); have k8_0 := (bE.below d0 bE.lt).at_ (i := 8) (v := .slice x.req.mtch.A x.req.mtch.l.length x.req.mtch.cap) rfl; have k9_0 := (bE.below d0 bE.lt).at_ (i := 9) (v := .slice x.req.non.A x.req.non.l.length x.req.non.cap) rfl) | (refine step_app (A := x.req.non.A) (m := x.req.non.l.length) (c := x.req.non.cap) (v := v0) (n := (x.req.mtch.l.length)) (base := wr.heap.size) (xs := (fl tgC (x.req.mtch.l))) (news := fl tgC x.req.non.l) el_tag rfl (.tmp 123) (.tmp 127) rfl rfl own0 rfl (by rw [fl_len tgC_len]) (R9.rv.below d0) (fl_oneCell tgC_one _) (by unfold maxLen; omega) (by omega) d0.size ?_; intro v1 w1 own1 gr1 hv1; replace own1 : w1.ownsRow wr.heap.size 25 2 v1 (x.req.mtch.l.length + x.req.non.l.length) (fl tgC (x.req.mtch.l ++ x.req.non.l)) := (by simpa [fl_append] using own1); have d1 : Below wr.heap.size wr w1 := d0.grown gr1 d0.size (fun k hk => (own0.lt k hk).1); have k8_1 := (bE.below d1 bE.lt).at_ (i := 8) (v := .slice x.req.mtch.A x.req.mtch.l.length x.req.mtch.cap) rfl; have k9_1 := (bE.below d1 bE.lt).at_ (i := 9) (v := .slice x.req.non.A x.req.non.l.length x.req.non.cap) rfl; obtain ⟨AT, cT, hvf, _, _⟩ := own_form own1; subst hvf) | fail)
  go_simp
  obtain ⟨LT, hLT⟩ : ∃ L : List Tag, L = x.req.mtch.l ++ x.req.non.l := ⟨_, rfl⟩
  have hnT : x.req.mtch.l.length + x.req.non.l.length = LT.length := by rw [hLT]; simp
  rw [← hLT, hnT] at own1
  have hnTi : (x.req.mtch.l.length : Int) + (x.req.non.l.length : Int) = (LT.length : Int) := by omega
  simp only [hnT, hnTi]
  have rT := (RVF.of_own (F := fun _ => False) own1 (fun i hi => hi.elim)).rv
  have wT : ∀ t ∈ LT, BigT t.text := by
    intro t ht
    rw [hLT] at ht
    rcases List.mem_append.1 ht with ht | ht
    · exact bx.out.mtch.2 t ht
    · exact bx.out.non.2 t ht
  have HLT := Lib.hid hLT
  have HnT : Hid (LT.length ≤ 2097152) := Lib.hid (by omega)
  have lTm : LT.length ≤ 9223372036854775807 := by omega
  have HB2 : Hid (M ≤ 10000000000000) := Lib.hid (by
    have h1 := hM.out.hi
    have h2 := HB1.out
    have h4 := HnK.out
    omega)
  have hM1 := hM
  clear hLT hnT hnTi own1 l8 l9 R8 R9 c8 c9 e8 e9 hM
  obtain ⟨N2, hN2⟩ : ∃ n : Nat, n = M := ⟨_, rfl⟩
  rw [← hN2] at hM1 HB2 ⊢
  clear hN2
  go_wp2_with fail
  go_loopw [130, 5] (fun i n wq => ∃ j M : Nat, j ≤ LT.length ∧ i = .int .i64 (j : Int) ∧ n = .int .i64 (M : Int) ∧ Hid (Cnt N2 M (fun t : Tag => t.text.length) (LT.take j)) ∧ Below w1.heap.size w1 wq) (fun i _ _ => LT.length - (intOf i).toNat)
  case atStart => exact ⟨0, N2, by omega, rfl, rfl, Lib.hid (Cnt.nil _ _), Below.refl _ _⟩
  obtain ⟨j, M, hj, rfl, rfl, hM, Bq⟩ := hrel
  by_cases hjt : j < LT.length
  case pos =>
    have decj : decide ((j : Int) < (LT.length : Int)) = true := decide_eq_true (by omega)
    have decj' : decide (j < LT.length) = true := decide_eq_true hjt
    obtain ⟨bk, ok, eA, hbk, hck⟩ := fl_elem tgC_len (by decide) (rT.below Bq) hjt
    rw [eA]
    have ck0 : wr.cell? ⟨bk, ok + j * 2, none⟩ = some (.string (bstr LT[j].text)) := hck 0 _ rfl
    have ck1 : wr.cell? ⟨bk, ok + j * 2 + 1, none⟩ = some (.bool LT[j].weak) := by have := hck 1 _ rfl; rwa [← Nat.add_assoc] at this
    have htj : Hid (LT.take (j + 1) = LT.take j ++ [LT[j]]) := Lib.hid (List.take_succ_eq_append_getElem hjt)
    have btj := wT _ (List.getElem_mem hjt)
    clear hck
    generalize LT[j] = tj at *
    have hzj : (bstr tj.text).size = tj.text.length := rfl
    have hMb : M ≤ 100000000000000 := by
      have h1 := hM.out.hi
      have h2 := HB2.out
      have h3 : (LT.take j).length ≤ j := by rw [List.length_take]; omega
      have h4 := HnT.out
      omega
    replace hMb := Lib.hid hMb
    replace btj := Lib.hid btj
    go_wp2_with fail
    go_roundw
    case rel => exact ⟨j + 1, M + 9 + (fun t : Tag => t.text.length) tj, by omega, by go_num, congrArg (Value.int .i64) (wr_two hMb.out btj.out), Lib.hid (by rw [htj.out]; exact hM.out.snoc tj (by have h5 : tj.text.length ≤ 1048576 := btj.out; show tj.text.length ≤ 2097152; omega)), Bq.alloc Bq.size _⟩
    case measure => simp [intOf]; omega
  obtain rfl : j = LT.length := by omega
  have decj : decide ((LT.length : Int) < (LT.length : Int)) = false := decide_eq_false (by omega)
  rw [List.take_length] at hM
  replace bE := (bE.below d1 bE.lt).below Bq (Nat.lt_of_lt_of_le bE.lt d1.size)
  replace ox := (ox.below d1).below Bq
  replace B2 := B2.trans ((d1.mono B2.size).trans (Bq.mono (B2.trans (d1.mono B2.size)).size))
  have HB3 : Hid (M ≤ 20000000000000) := Lib.hid (by
    have h1 := hM.out.hi
    have h2 := HB2.out
    have h4 := HnT.out
    omega)
  have hM2 := hM
  clear hM
  obtain ⟨N3, hN3⟩ : ∃ n : Nat, n = M := ⟨_, rfl⟩
  rw [← hN3] at hM2 HB3 ⊢
  clear hN3 rT wT d1 d0 gr0 gr1 hv0 hv1 own0
  have c28 := bE.at_ (i := 28) (v := .slice x.ans.fields.A x.ans.fields.l.length x.ans.fields.cap) rfl
  have rF := ox.ans.fields.rv
  have HnF : Hid (x.ans.fields.l.length ≤ 1048576) := Lib.hid bx.out.fields.1
  have lFm : x.ans.fields.l.length ≤ 9223372036854775807 := Nat.le_trans bx.out.fields.1 (by decide)
  have wF := bx.out.fields.2
  obtain ⟨LF, hLF⟩ : ∃ L, L = x.ans.fields.l := ⟨_, rfl⟩
  have wF' : ∀ f ∈ LF, BigT f.name ∧ BigT f.value := fun f hf => wF f (show f ∈ x.ans.fields.l from hLF ▸ hf)
  rw [← hLF] at c28 rF HnF lFm
  have HLF := Lib.hid hLF
  clear wF hLF
  obtain ⟨w4, hw4⟩ : ∃ v, v = wr := ⟨_, rfl⟩
  rw [← hw4] at bE ox B2 c28 rF ⊢
  clear hw4
  go_wp2_with fail
  go_loopw [145, 5] (fun i n wq => ∃ j M : Nat, j ≤ LF.length ∧ i = .int .i64 (j : Int) ∧ n = .int .i64 (M : Int) ∧ Hid (Cnt N3 M (fun f : Fld => f.name.length + f.value.length) (LF.take j)) ∧ Below w4.heap.size w4 wq) (fun i _ _ => LF.length - (intOf i).toNat)
  case atStart => exact ⟨0, N3, by omega, rfl, rfl, Lib.hid (Cnt.nil _ _), Below.refl _ _⟩
  obtain ⟨j, M, hj, rfl, rfl, hM, Bq⟩ := hrel
  by_cases hjt : j < LF.length
  case pos =>
    have decj : decide ((j : Int) < (LF.length : Int)) = true := decide_eq_true (by omega)
    have decj' : decide (j < LF.length) = true := decide_eq_true hjt
    obtain ⟨bk, ok, eA, hbk, hck⟩ := fl_elem fdC_len (by decide) (rF.below Bq) hjt
    rw [eA]
    have ck0 : wr.cell? ⟨bk, ok + j * 2, none⟩ = some (.string (bstr LF[j].name)) := hck 0 _ rfl
    have ck1 : wr.cell? ⟨bk, ok + j * 2 + 1, none⟩ = some (.string (bstr LF[j].value)) := by have := hck 1 _ rfl; rwa [← Nat.add_assoc] at this
    have htj : Hid (LF.take (j + 1) = LF.take j ++ [LF[j]]) := Lib.hid (List.take_succ_eq_append_getElem hjt)
    have btj := wF' _ (List.getElem_mem hjt)
    clear hck
    generalize LF[j] = tj at *
    have hzj : (bstr tj.name).size = tj.name.length := rfl
    have hzk : (bstr tj.value).size = tj.value.length := rfl
    have hMb : M ≤ 100000000000000 := by
      have h1 := hM.out.hi
      have h2 := HB3.out
      have h3 : (LF.take j).length ≤ j := by rw [List.length_take]; omega
      have h4 := HnF.out
      omega
    replace hMb := Lib.hid hMb
    replace btj := Lib.hid btj
    go_wp2_with fail
    go_roundw
    case rel => exact ⟨j + 1, M + 9 + (fun f : Fld => f.name.length + f.value.length) tj, by omega, by go_num, congrArg (Value.int .i64) (wr_three hMb.out btj.out.1 btj.out.2), Lib.hid (by rw [htj.out]; exact hM.out.snoc tj (by have h5 : tj.name.length ≤ 1048576 := btj.out.1; have h6 : tj.value.length ≤ 1048576 := btj.out.2; show tj.name.length + tj.value.length ≤ 2097152; omega)), Bq.alloc Bq.size _⟩
    case measure => simp [intOf]; omega
  obtain rfl : j = LF.length := by omega
  have decj : decide ((LF.length : Int) < (LF.length : Int)) = false := decide_eq_false (by omega)
  rw [List.take_length] at hM
  replace bE := bE.below Bq bE.lt
  replace ox := ox.below Bq
  replace B2 := B2.trans (Bq.mono B2.size)
  have HB4 : Hid (M ≤ 30000000000000) := Lib.hid (by
    have h1 := hM.out.hi
    have h2 := HB3.out
    have h4 := HnF.out
    omega)
  have hM3 := hM
  clear hM c28 rF wF'
  obtain ⟨N4, hN4⟩ : ∃ n : Nat, n = M := ⟨_, rfl⟩
  rw [← hN4] at hM3 HB4 ⊢
  clear hN4
  have c29 := bE.at_ (i := 29) (v := .slice x.ans.parts.A x.ans.parts.l.length x.ans.parts.cap) rfl
  have rP := ox.ans.parts.rv
  have HnP : Hid (x.ans.parts.l.length ≤ 1048576) := Lib.hid bx.out.parts.1
  have lPm : x.ans.parts.l.length ≤ 9223372036854775807 := Nat.le_trans bx.out.parts.1 (by decide)
  have wP := bx.out.parts.2
  obtain ⟨LP, hLP⟩ : ∃ L, L = x.ans.parts.l := ⟨_, rfl⟩
  have wP' : ∀ f ∈ LP, BigT f.text := fun f hf => wP f (show f ∈ x.ans.parts.l from hLP ▸ hf)
  rw [← hLP] at c29 rP HnP lPm
  have HLP := Lib.hid hLP
  clear wP hLP
  obtain ⟨w5, hw5⟩ : ∃ v, v = wr := ⟨_, rfl⟩
  rw [← hw5] at bE ox B2 c29 rP ⊢
  clear hw5 Bq
  go_wp2_with fail
  go_loopw [164, 5] (fun i n wq => ∃ j M : Nat, j ≤ LP.length ∧ i = .int .i64 (j : Int) ∧ n = .int .i64 (M : Int) ∧ Hid (Cnt N4 M (fun p : Prt => p.text.length) (LP.take j)) ∧ Below w5.heap.size w5 wq) (fun i _ _ => LP.length - (intOf i).toNat)
  case atStart => exact ⟨0, N4, by omega, rfl, rfl, Lib.hid (Cnt.nil _ _), Below.refl _ _⟩
  obtain ⟨j, M, hj, rfl, rfl, hM, Bq⟩ := hrel
  by_cases hjt : j < LP.length
  case pos =>
    have decj : decide ((j : Int) < (LP.length : Int)) = true := decide_eq_true (by omega)
    have decj' : decide (j < LP.length) = true := decide_eq_true hjt
    obtain ⟨bk, ok, eA, hbk, hck⟩ := fl_elem ptC_len (by decide) (rP.below Bq) hjt
    rw [eA]
    have ck0 : wr.cell? ⟨bk, ok + j * 3, none⟩ = some (.string (bstr LP[j].text)) := hck 0 _ rfl
    have ck1 : wr.cell? ⟨bk, ok + j * 3 + 1, none⟩ = some (.int .i64 LP[j].span.frm) := by have := hck 1 _ rfl; rwa [← Nat.add_assoc] at this
    have ck2 : wr.cell? ⟨bk, ok + j * 3 + 2, none⟩ = some (.int .i64 LP[j].span.to) := by have := hck 2 _ rfl; rwa [← Nat.add_assoc] at this
    have htj : Hid (LP.take (j + 1) = LP.take j ++ [LP[j]]) := Lib.hid (List.take_succ_eq_append_getElem hjt)
    have btj := wP' _ (List.getElem_mem hjt)
    clear hck
    generalize LP[j] = tj at *
    have hzj : (bstr tj.text).size = tj.text.length := rfl
    have hMb : M ≤ 100000000000000 := by
      have h1 := hM.out.hi
      have h2 := HB4.out
      have h3 : (LP.take j).length ≤ j := by rw [List.length_take]; omega
      have h4 := HnP.out
      omega
    replace hMb := Lib.hid hMb
    replace btj := Lib.hid btj
    go_wp2_with fail
    go_roundw
    case rel => exact ⟨j + 1, M + 9 + (fun p : Prt => p.text.length) tj, by omega, by go_num, congrArg (Value.int .i64) (wr_two hMb.out btj.out), Lib.hid (by rw [htj.out]; exact hM.out.snoc tj (by have h5 : tj.text.length ≤ 1048576 := btj.out; show tj.text.length ≤ 2097152; omega)), Bq.alloc Bq.size _⟩
    case measure => simp [intOf]; omega
  obtain rfl : j = LP.length := by omega
  have decj : decide ((LP.length : Int) < (LP.length : Int)) = false := decide_eq_false (by omega)
  rw [List.take_length] at hM
  replace B2 := B2.trans (Bq.mono B2.size)
  clear c29 rP wP' bE ox Bq
  rw [HLK.out] at hM1
  rw [HLT.out] at hM2
  rw [HLF.out] at hM3
  rw [HLP.out] at hM
  by_cases hbig : 30000 < M
  · have db : decide ((30000 : Int) < (M : Int)) = true := decide_eq_true (by omega)
    go_wp2_with fail
    go_ret
    exact ⟨false, rfl, (fun h => by cases h), B2⟩
  have db : decide ((30000 : Int) < (M : Int)) = false := decide_eq_false (by omega)
  have HE := Lib.hid (small_end x HN1.out hM1.out hM2.out hM3.out hM.out (by omega))
  go_wp2_with fail
  go_roundw
  case rel => exact ⟨k + 1, M, by omega, by go_num, rfl, Lib.hid ⟨by omega, fun e he => by
    rw [ht.out] at he
    rcases List.mem_append.1 he with he | he
    · exact hN.out.2 e he
    · obtain rfl : e = x := by simpa using he
      exact HE.out⟩, B2⟩
  case measure => simp [intOf]; omega
end Go.Proofs.YtiokbebodblhaaaGreatDoor
namespace Go.Proofs.YtiokbebodblhaaaGreatDoor
open Go.RowKit TraceP

end Go.Proofs.YtiokbebodblhaaaGreatDoor
