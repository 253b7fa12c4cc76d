/-
  What an event asks of the state, and leaves, kind by kind. Printed by stgen.py.
-/
import Derived.Test.YtiokbebodblhaaaGreatDoorTPlain
import Derived.Test.YtiokbebodblhaaaGreatDoorProg
import Derived.Test.YtiokbebodblhaaaGreatDoorTMemo
import Derived.Maps.RangeWalk
import Derived.DeepKeys4
import Derived.Test.YtiokbebodblhaaaGreatDoorTWri
import Derived.Deep.Cut
import Derived.WideKeyEntry
namespace Go.Proofs.YtiokbebodblhaaaGreatDoor.TraceP
open Go
theorem nbeq (x k : Nat) : ((x : Int) == (k : Int)) = (x == k) := by
  by_cases h : x = k
  · subst h; simp
  · rw [beq_eq_false_iff_ne.2 h, beq_eq_false_iff_ne.2 (by omega)]
theorem nbne (x k : Nat) : ((x : Int) != (k : Int)) = (x != k) := by rw [bne, bne, nbeq]
theorem nlt (x k : Nat) : decide ((x : Int) < (k : Int)) = decide (x < k) := by
  by_cases h : x < k
  · rw [decide_eq_true h, decide_eq_true (by omega)]
  · rw [decide_eq_false h, decide_eq_false (by omega)]
section
variable {s : PSt} {e : Evt}
theorem mayB_1 (h : e.kind = 1) : mayB s e = ((e.met.have_ == (e.bytes.length : Int)) && (e.met.len == -1 || e.met.len == (e.bytes.length : Int))) := by unfold mayB; simp [h]
theorem mayS_1 (h : e.kind = 1) : mayS s e = { s with obj := setO s.obj e.object (if e.met.len = -1 then 2 else 1) } := by unfold mayS; simp [h]
theorem mayB_2 (h : e.kind = 2) : mayB s e = ((s.obj e.object == 2) && decide (0 < e.bytes.length)) := by unfold mayB; simp [h]
theorem mayS_2 (h : e.kind = 2) : mayS s e = s := by unfold mayS; simp [h]
theorem mayB_3 (h : e.kind = 3) : mayB s e = (s.obj e.object == 2) := by unfold mayB; simp [h]
theorem mayS_3 (h : e.kind = 3) : mayS s e = { s with obj := setO s.obj e.object 1 } := by unfold mayS; simp [h]
theorem mayB_4 (h : e.kind = 4) : mayB s e = (s.obj e.object != 0) := by unfold mayB; simp [h]
theorem mayS_4 (h : e.kind = 4) : mayS s e = { s with obj := setO s.obj e.object 0 } := by unfold mayS; simp [h]
theorem mayB_5 (h : e.kind = 5) : mayB s e = (decide (0 < e.keys.length)) := by unfold mayB; simp [h]
theorem mayS_5 (h : e.kind = 5) : mayS s e = s := by unfold mayS; simp [h]
theorem mayB_6 (h : e.kind = 6) : mayB s e = (s.wt e.node e.who == 0) := by unfold mayB; simp [h]
theorem mayS_6 (h : e.kind = 6) : mayS s e = { s with wt := setP s.wt e.node e.who 1 } := by unfold mayS; simp [h]
theorem mayB_7 (h : e.kind = 7) : mayB s e = (s.wt e.node e.who != 0) := by unfold mayB; simp [h]
theorem mayS_7 (h : e.kind = 7) : mayS s e = { s with wt := setP s.wt e.node e.who 0 } := by unfold mayS; simp [h]
theorem mayB_8 (h : e.kind = 8) : mayB s e = (s.wt e.node e.who == 1) := by unfold mayB; simp [h]
theorem mayS_8 (h : e.kind = 8) : mayS s e = { s with wt := setP s.wt e.node e.who 2 } := by unfold mayS; simp [h]
theorem mayB_9 (h : e.kind = 9) : mayB s e = ((s.wt e.node e.who == 2) && decide (0 < e.bytes.length)) := by unfold mayB; simp [h]
theorem mayS_9 (h : e.kind = 9) : mayS s e = s := by unfold mayS; simp [h]
theorem mayB_10 (h : e.kind = 10) : mayB s e = (s.wt e.node e.who == 2) := by unfold mayB; simp [h]
theorem mayS_10 (h : e.kind = 10) : mayS s e = { s with wt := setP s.wt e.node e.who 0 } := by unfold mayS; simp [h]
theorem mayB_11 (h : e.kind = 11) : mayB s e = (decide (s.fe e.node < e.who)) := by unfold mayB; simp [h]
theorem mayS_11 (h : e.kind = 11) : mayS s e = { s with fe := setN s.fe e.node e.who, fl := setP s.fl e.node e.who 1 } := by unfold mayS; simp [h]
theorem mayB_12 (h : e.kind = 12) : mayB s e = (s.fl e.node e.who == 1) := by unfold mayB; simp [h]
theorem mayS_12 (h : e.kind = 12) : mayS s e = { s with fl := setP s.fl e.node e.who (if e.rep.status ≠ 200 ∧ e.rep.status ≠ 206 then 0 else 2) } := by unfold mayS; simp [h]
theorem mayB_13 (h : e.kind = 13) : mayB s e = ((s.fl e.node e.who == 2) && decide (0 < e.bytes.length)) := by unfold mayB; simp [h]
theorem mayS_13 (h : e.kind = 13) : mayS s e = s := by unfold mayS; simp [h]
theorem mayB_14 (h : e.kind = 14) : mayB s e = (s.fl e.node e.who != 0) := by unfold mayB; simp [h]
theorem mayS_14 (h : e.kind = 14) : mayS s e = { s with fl := setP s.fl e.node e.who 0 } := by unfold mayS; simp [h]
theorem mayB_15 (h : e.kind = 15) : mayB s e = (s.fl e.node e.who != 0) := by unfold mayB; simp [h]
theorem mayS_15 (h : e.kind = 15) : mayS s e = { s with fl := setP s.fl e.node e.who 0 } := by unfold mayS; simp [h]
theorem mayB_16 (h : e.kind = 16) : mayB s e = (true) := by unfold mayB; simp [h]
theorem mayS_16 (h : e.kind = 16) : mayS s e = { s with wt := dropP s.wt e.node, fl := dropP s.fl e.node, fe := setN s.fe e.node 0 } := by unfold mayS; simp [h]
end
end Go.Proofs.YtiokbebodblhaaaGreatDoor.TraceP
namespace Go.Proofs.YtiokbebodblhaaaGreatDoor
open Go.RowKit Go.Maps Go.WideMaps TraceP

theorem laidOutM : laidOutB Tryz.prog = true := by kernel_rfl
/- ### Keys -/
def pv (a b : Int) : Value := .agg #[.int .i64 a, .int .i64 b]
theorem wf_i64M {a : Int} (h : I64 a) : (Lit.int .i64 a).wf = true := by
  obtain ⟨h1, h2⟩ := h
  simp [Lit.wf, IntKind.min, IntKind.max, IntKind.signed, IntKind.bits]
  omega
theorem placeKeyed : Keyed Tryz.prog 121 :=
  Keyed.of_law (deep_law_laid laidOutM (m := 2) (by omega) (of_decide_eq_true (by kernel_rfl)) (by kernel_rfl) (by rw [Tryz.underlying121]))
theorem intKeyed : Keyed Tryz.prog 3 := int_keyed Tryz.underlying3
theorem strKeyed : Keyed Tryz.prog 9 := string_keyed Tryz.underlying9
theorem key_int {a : Int} (h : I64 a) : keyOf Tryz.prog 3 (.int .i64 a) = some (.int .i64 a) := keyOf_int_mk Tryz.underlying3 (wf_i64M h)
theorem key_str {s : Txt} (h : s.length ≤ 9223372036854775807) : ∃ kl, keyOf Tryz.prog 9 (.string (bstr s)) = some kl :=
  ⟨_, keyOf_string_mk Tryz.underlying9 (by have e : (bstr s).size = s.length := rfl; rw [e]; unfold maxLen; omega)⟩
theorem lits_int (n : Nat) {a : Int} (h : I64 a) : Tryz.prog.keyLits (n + 1) 3 [.int .i64 a] = some [.int .i64 a] := by
  simp [Program.keyLits, Tryz.underlying3, wf_i64M h]
theorem lits_place (n : Nat) {a b : Int} (ha : I64 a) (hb : I64 b) : Tryz.prog.keyLits (n + 2) 121 [.int .i64 a, .int .i64 b] = some [.int .i64 a, .int .i64 b] := by
  have c1 : Tryz.prog.cellsOf 3 = 1 := by kernel_rfl
  have c2 : Tryz.prog.cellsOf 121 = 2 := by kernel_rfl
  have e1 := lits_int n ha
  have e2 := lits_int n hb
  unfold Program.keyLits
  simp only [Tryz.underlying121]
  simp [c1, c2, e1, e2]
theorem key_place {a b : Int} (ha : I64 a) (hb : I64 b) : ∃ kl, keyOf Tryz.prog 121 (pv a b) = some kl := by
  have c2 : Tryz.prog.cellsOf 121 = 2 := by kernel_rfl
  have h1 : Tryz.prog.keyType 121 = true := by kernel_rfl
  obtain ⟨n, hn⟩ : ∃ n, Tryz.prog.types.size + 1 = n + 2 := ⟨Tryz.prog.types.size - 1, by
    have : 1 ≤ Tryz.prog.types.size := of_decide_eq_true (by kernel_rfl)
    omega⟩
  have e := lits_place n ha hb
  unfold keyOf pv
  rw [Tryz.underlying121, hn]
  simp [h1, Value.formed, Tryz.underlying121, c2, Value.cells, e]
theorem lits_int_inv {d : Nat} {v : Value} {y : List Lit} (h : Tryz.prog.keyLits d 3 [v] = some y) : ∃ a, v = .int .i64 a := by
  cases d with
  | zero => simp [Program.keyLits] at h
  | succ d =>
    unfold Program.keyLits at h
    simp only [Tryz.underlying3] at h
    cases v <;> simp at h
    obtain ⟨⟨rfl, _⟩, _⟩ := h
    exact ⟨_, rfl⟩
theorem lits_place_inv {d : Nat} {v0 v1 : Value} {y : List Lit} (h : Tryz.prog.keyLits d 121 [v0, v1] = some y) : ∃ a b, v0 = .int .i64 a ∧ v1 = .int .i64 b := by
  have c1 : Tryz.prog.cellsOf 3 = 1 := by kernel_rfl
  have c2 : Tryz.prog.cellsOf 121 = 2 := by kernel_rfl
  cases d with
  | zero => simp [Program.keyLits] at h
  | succ d =>
    unfold Program.keyLits at h
    simp only [Tryz.underlying121] at h
    cases h0 : Tryz.prog.keyLits d 3 [v0] with
    | none => simp [c1, c2, h0] at h
    | some y0 =>
      cases h1 : Tryz.prog.keyLits d 3 [v1] with
      | none => simp [c1, c2, h0, h1] at h
      | some y1 =>
        obtain ⟨a, ha⟩ := lits_int_inv h0
        obtain ⟨b, hb⟩ := lits_int_inv h1
        exact ⟨a, b, ha, hb⟩
theorem arr2M {cs : Array Value} (h : cs.size = 2) : ∃ v0 v1, cs = #[v0, v1] := by
  match cs, h with
  | ⟨[v0, v1]⟩, _ => exact ⟨v0, v1, rfl⟩
theorem place_inv (key : Value) (kl : Lit) (h : keyOf Tryz.prog 121 key = some kl) : ∃ x : Int × Int, key = pv x.1 x.2 := by
  have c2 : Tryz.prog.cellsOf 121 = 2 := by kernel_rfl
  unfold keyOf at h
  simp only [Tryz.underlying121] at h
  split at h
  · rename_i hf
    obtain ⟨ls, hls, _⟩ := Option.map_eq_some_iff.1 h
    simp only [Bool.and_eq_true] at hf
    have hF := hf.2
    cases key <;> simp [Value.formed, Tryz.underlying121, c2] at hF
    rename_i cs
    obtain ⟨v0, v1, e⟩ := arr2M hF
    subst e
    obtain ⟨a, b, rfl, rfl⟩ := lits_place_inv hls
    exact ⟨(a, b), rfl⟩
  · exact absurd h (by simp)
theorem zeroI (w : World) : (zeroValue 3).run Tryz.prog w = .ok (.int .i64 0) w := by kernel_rfl

/- ### A map, key by key -/
/-- Block b is a map of at most n entries; F says which keys are there, and what they have. -/
def MapO (w : World) (K : TypeId) (b n : Nat) (F : Value → Option Int) : Prop :=
  ∃ D : DataW Unit, w.ownsMap Tryz.prog K (plainElem Tryz.prog 3) b n D ∧ ∀ key kl, keyOf Tryz.prog K key = some kl → Maps.has D kl = (F key).isSome ∧ D.atKey kl (.lit (.int .i64 0)) = .lit (.int .i64 ((F key).getD 0))
noncomputable def setV (F : Value → Option Int) (k : Value) (x : Option Int) : Value → Option Int := fun v => by classical exact if v = k then x else F v
theorem setV_same (F : Value → Option Int) (k : Value) (x : Option Int) : setV F k x k = x := by simp [setV]
theorem setV_other {F : Value → Option Int} {k v : Value} (x : Option Int) (h : v ≠ k) : setV F k x v = F v := by simp [setV, h]
section
variable {w w' : World} {K : TypeId} {b n : Nat} {F : Value → Option Int}
theorem MapO.made (w : World) (K : TypeId) : MapO (w.alloc (.map #[] 0)) K w.heap.size 0 (fun _ => none) :=
  ⟨.map [], World.ownsMap_made _ _ _ _, fun _ _ _ => ⟨rfl, rfl⟩⟩
theorem MapO.lt (h : MapO w K b n F) : b < w.heap.size := by obtain ⟨D, h, _⟩ := h; exact h.lt
theorem MapO.mono (h : MapO w K b n F) {n' : Nat} (hn : n ≤ n') : MapO w K b n' F := by obtain ⟨D, h, h'⟩ := h; exact ⟨D, h.mono hn, h'⟩
theorem MapO.kept (h : MapO w K b n F) {row : Option Nat} (hg : w.grownBy w' row) (hne : some b ≠ row) : MapO w' K b n F := by obtain ⟨D, h, h'⟩ := h; exact ⟨D, h.kept hg hne, h'⟩
theorem MapO.alloc (h : MapO w K b n F) (o : Obj) : MapO (w.alloc o) K b n F := by obtain ⟨D, h, h'⟩ := h; exact ⟨D, h.alloc o, h'⟩
theorem MapO.setCell (h : MapO w K b n F) {a : Addr} (ha : b ≠ a.block) (u : Value) : MapO (w.setCell a u) K b n F := by obtain ⟨D, h, h'⟩ := h; exact ⟨D, h.setCell ha u, h'⟩
theorem MapO.of_block (h : MapO w K b n F) (e : w'.heap[b]? = w.heap[b]?) : MapO w' K b n F := by
  obtain ⟨D, ⟨es, clock, hb, r⟩, h'⟩ := h
  exact ⟨D, ⟨es, clock, e.trans hb, r⟩, h'⟩
end
section
variable {w : World} {ops : Array Oper} {rest : List Oper} {o : Oper} {a : Act} {Q : Exit → Act → World → Prop}
/-- 'm[k]'. -/
theorem wpList_look_O (hg : o.guard = none) (m x : Operand) (t K : TypeId) (hop : o.op = Op.lookup t m x false) (hK : Keyed Tryz.prog K) (ht : Tryz.prog.underlying t = some (.map K 3)) (b n : Nat) (F : Value → Option Int)
    (hm : a.eval m = .map (some b)) (h : MapO w K b n F) (key : Value) (kl : Lit) (hx : a.eval x = key) (hkey : keyOf Tryz.prog K key = some kl)
    (hk : wpList Tryz.prog ops Q rest (a.put o.dst (.int .i64 ((F key).getD 0))) w) : wpList Tryz.prog ops Q (o :: rest) a w := by
  obtain ⟨D, h, h'⟩ := h
  refine wpList_lookup_own_int w hg m x t hop K 3 .i64 hK ht Tryz.underlying3 (zeroI _) b n D hm h key kl hx hkey ?_
  intro c hat _
  rw [(h' key kl hkey).2] at hat
  injection hat with hat
  injection hat with _ hat
  rw [← hat]
  exact hk
/-- 'm[k] = v'. -/
theorem wpList_store_O (hg : o.guard = none) (m x v : Operand) (t K : TypeId) (hop : o.op = Op.mapUpdate t m x v) (hK : Keyed Tryz.prog K) (ht : Tryz.prog.underlying t = some (.map K 3)) (b n : Nat) (F : Value → Option Int)
    (hm : a.eval m = .map (some b)) (h : MapO w K b n F) (hn : n < 9223372036854775807) (key : Value) (c : Int) (kl : Lit) (hx : a.eval x = key) (hv : a.eval v = .int .i64 c) (hkey : keyOf Tryz.prog K key = some kl) (hc : I64 c)
    (hk : ∀ w', MapO w' K b (n + 1) (setV F key (some c)) → w.grownBy w' (some b) → wpList Tryz.prog ops Q rest (a.put o.dst undef) w') : wpList Tryz.prog ops Q (o :: rest) a w := by
  obtain ⟨D, h, h'⟩ := h
  refine wpList_mapUpdate_own w hg m x v t hop K 3 hK ht _ b n D hm h (by unfold maxLen; omega) key (.int .i64 c) kl hx hv hkey _ [] (plainElem_int Tryz.underlying3 (wf_i64M hc)) ?_
  intro w' h1 h2
  refine hk w' ⟨_, h1, fun key' kl' hkey' => ?_⟩ h2
  by_cases e : key' = key
  · subst e
    obtain rfl : kl = kl' := Option.some.inj (hkey.symm.trans hkey')
    rw [setV_same, has_put_same h.isMap (hK.key hkey), atKey_put_same h.isMap (hK.key hkey)]
    exact ⟨rfl, rfl⟩
  · have e' : kl' ≠ kl := fun q => e (hK.inj hkey' (q ▸ hkey))
    rw [setV_other _ e, has_put_other e', atKey_put_other e']
    exact h' key' kl' hkey'
/-- 'delete(m, k)'. -/
theorem wpList_delete_O (hg : o.guard = none) (m x : Operand) (t K : TypeId) (hop : o.op = Op.call { callee := Callee.builtin Builtin.delete, args := #[m, x], argTypes := #[t, K] }) (hK : Keyed Tryz.prog K) (ht : Tryz.prog.underlying t = some (.map K 3)) (b n : Nat) (F : Value → Option Int)
    (hm : a.eval m = .map (some b)) (h : MapO w K b n F) (key : Value) (kl : Lit) (hx : a.eval x = key) (hkey : keyOf Tryz.prog K key = some kl)
    (hk : ∀ w', MapO w' K b n (setV F key none) → w.grownBy w' (some b) → wpList Tryz.prog ops Q rest (a.put o.dst (.tuple #[])) w') : wpList Tryz.prog ops Q (o :: rest) a w := by
  obtain ⟨D, h, h'⟩ := h
  refine wpList_delete_own w hg m x t K hop 3 hK ht _ b n D hm h key kl hx hkey ?_
  intro w' h1 h2
  refine hk w' ⟨_, h1, fun key' kl' hkey' => ?_⟩ h2.grown
  by_cases e : key' = key
  · subst e
    obtain rfl : kl = kl' := Option.some.inj (hkey.symm.trans hkey')
    rw [setV_same, has_del_same, atKey_del_same]
    exact ⟨rfl, rfl⟩
  · have e' : kl' ≠ kl := fun q => e (hK.inj hkey' (q ▸ hkey))
    rw [setV_other _ e, has_del_other e', atKey_del_other e']
    exact h' key' kl' hkey'
end
end Go.Proofs.YtiokbebodblhaaaGreatDoor
namespace Go.Proofs.YtiokbebodblhaaaGreatDoor
open Go.RowKit Go.Maps Go.WideMaps TraceP

/-- What is left when all of a node are gone that have been met. -/
noncomputable def gone (F : Value → Option Int) (nd : Int) (left : Bool) (v : Value) : Option Int := by
  classical exact if (∃ x, v = pv nd x) ∧ left = false then none else F v
noncomputable def dropV (F : Value → Option Int) (nd : Int) (v : Value) : Option Int := gone F nd false v
theorem gone_left (F : Value → Option Int) (nd : Int) (v : Value) : gone F nd true v = F v := by simp [gone]
theorem gone_other {F : Value → Option Int} {nd : Int} {v : Value} (left : Bool) (h : ∀ x, v ≠ pv nd x) : gone F nd left v = F v := by
  unfold gone
  rw [if_neg]
  rintro ⟨⟨x, e⟩, _⟩
  exact h x e
theorem gone_node {F : Value → Option Int} {nd x : Int} : gone F nd false (pv nd x) = none := by
  unfold gone
  rw [if_pos ⟨⟨x, rfl⟩, rfl⟩]
theorem dropV_pv (F : Value → Option Int) (nd a b : Int) : dropV F nd (pv a b) = if a = nd then none else F (pv a b) := by
  unfold dropV
  by_cases h : a = nd
  · subst h
    rw [gone_node, if_pos rfl]
  · rw [if_neg h]
    exact gone_other _ fun x e => h (by unfold pv at e; injection e with e; injection e with e; injection e with e _; injection e)
theorem pv_inj {a b x y : Int} (h : pv a b = pv x y) : a = x ∧ b = y := by
  unfold pv at h
  simpa using h
/-- What the round's map says. -/
def Says (D : DataW Unit) (F : Value → Option Int) (nd : Int) (left : Lit → Bool) : Prop :=
  ∀ key kl, keyOf Tryz.prog 121 key = some kl → Maps.has D kl = (gone F nd (left kl) key).isSome ∧ D.atKey kl (.lit (.int .i64 0)) = .lit (.int .i64 ((gone F nd (left kl) key).getD 0))
/-- An entry of another node was met. -/
theorem Says.pass {D : DataW Unit} {F : Value → Option Int} {nd : Int} {left : Lit → Bool} (h : Says D F nd left) {a b : Int} {kl : Lit} (hk : keyOf Tryz.prog 121 (pv a b) = some kl) (hn : a ≠ nd) : Says D F nd (fun z => left z && !z.sameKey kl) := by
  intro key' kl' hk'
  have := h key' kl' hk'
  by_cases e : kl' = kl
  · subst e
    obtain rfl := placeKeyed.inj hk hk'
    have hne : ∀ x, pv a b ≠ pv nd x := fun x e => hn (pv_inj e).1
    rw [gone_other _ hne] at this ⊢
    exact this
  · have hs : kl'.sameKey kl = false := sameKey_ne e
    simpa [hs] using this
/-- .. of the node: it is struck. -/
theorem Says.strike {D : DataW Unit} {F : Value → Option Int} {nd : Int} {left : Lit → Bool} (h : Says D F nd left) {b : Int} {kl : Lit} (hk : keyOf Tryz.prog 121 (pv nd b) = some kl) : Says (D.del kl) F nd (fun z => left z && !z.sameKey kl) := by
  intro key' kl' hk'
  have := h key' kl' hk'
  by_cases e : kl' = kl
  · subst e
    obtain rfl := placeKeyed.inj hk hk'
    have hs : kl'.sameKey kl' = true := WideAt.sameKey_self (placeKeyed.key hk)
    rw [has_del_same, atKey_del_same]
    simp only [hs, Bool.not_true, Bool.and_false]
    rw [gone_node]
    exact ⟨rfl, rfl⟩
  · have hs : kl'.sameKey kl = false := sameKey_ne e
    rw [has_del_other e, atKey_del_other e]
    simpa [hs] using this
theorem elem_inv (v : Value) (y : DataW Unit × List MemPlace) (h : plainElem Tryz.prog 3 v = some y) : ∃ c : Int, v = .int .i64 c := by
  obtain ⟨c, e, _⟩ := plainElem_int_inv Tryz.underlying3 h
  exact ⟨c, e⟩
set_option maxRecDepth 100000 in
set_option maxHeartbeats 1600000 in
theorem drop_calls (w : World) (b n : Nat) (F : Value → Option Int) (nd : Int) (h : MapO w 121 b n F) :
    Calls Tryz.prog 58 #[.map (some b), .int .i64 nd] w fun e w' => e = .returned (.tuple #[]) ∧ MapO w' 121 b n (dropV F nd) ∧ w.grownBy w' (some b) := by
  obtain ⟨D0, hown, hF⟩ := h
  have hbl := hown.lt
  have S0 : Says D0 F nd (Maps.has D0) := by
    intro key kl hk
    obtain ⟨h1, h2⟩ := hF key kl hk
    cases hh : Maps.has D0 kl
    · rw [hh] at h1
      have e : F key = none := by simpa using h1.symm
      have e' : gone F nd false key = none := by unfold gone; split <;> simp [e]
      rw [e']
      rw [e] at h2
      exact ⟨rfl, h2⟩
    · rw [gone_left]
      rw [hh] at h1
      exact ⟨h1, h2⟩
  replace S0 := Lib.hid S0
  go_enter Tryz.func58, Tryz.ntmps58
  go_wp2_with (first | (at_range; refine wpList_range_own _ rfl (.tmp 5) 104 rfl 121 3 placeKeyed Tryz.underlying104 _ b n D0 rfl hown ?_; intro w0 hrg0 hg0 hs0) | go_in)
  go_frame
  obtain ⟨r, hr⟩ : ∃ r, r = w.heap.size := ⟨_, rfl⟩
  rw [← hr] at hrg0 ⊢
  have hrn : w.heap.size ≤ r := by omega
  have hg1 := hg0.but (some b)
  clear hr hown hF hs0 hg0
  go_loopw [7] (fun _ wr => ∃ left cnt D, wr.ranges Tryz.prog 121 (plainElem Tryz.prog 3) b r n D left cnt ∧ Hid (Says D F nd left) ∧ w.grownBy wr (some b)) (fun _ wr => wr.rangeLeft b r)
  case atStart => exact ⟨_, _, _, hrg0, S0, hg1⟩
  case round =>
    clear S0 hrg0 hg1 w0
    obtain ⟨left, cnt, D, hrg, HS, HG⟩ := hrel
    have hbr : b < wr.heap.size := hrg.owns.lt
    go_upto_region 1 with fail
    with_reducible refine wp_region_lit ?_
    with_reducible refine wpList_next_ranges _ rfl (.tmp 6) rfl 121 placeKeyed (plainElem Tryz.prog 3) (fun x : Int × Int => pv x.1 x.2) (fun c : Int => Value.int .i64 c) place_inv elem_inv b r n D left cnt (by kernel_rfl) hrg ?_ ?_
    · intro _ hl0
      have HM : MapO wr 121 b n (dropV F nd) := ⟨D, hrg.owns, fun key kl hk => by
        have := HS.out key kl hk
        rw [hl0 kl] at this
        exact this⟩
      clear HS hrg
      go_wp2_with fail
      go_end0
      exact ⟨rfl, HM, HG⟩
    · intro x cv kl y w1 cnt1 hkx hlk hR hat hrg1 hlt hg1 hs1 hen
      obtain ⟨xa, xb⟩ := x
      have HG1 : w.grownBy w1 (some b) := HG.andThen hg1 (fun j hj => by cases hj; exact .inl hrn)
      have hml := hrg.left_eq
      simp only [pv] at hen
      have hrn1 : r < w1.heap.size := hrg1.lt
      have hbn1 : b < w1.heap.size := hrg1.owns.lt
      have hp2 := hrg1.alloc (.cells #[.int .i64 xa, .int .i64 xb] 121)
      have HG2 : w.grownBy (w1.alloc (.cells #[.int .i64 xa, .int .i64 xb] 121)) (some b) := HG1.andThen (World.grownBy_alloc w1 _ none) (fun j hj => by cases hj)
      by_cases hn : xa = nd
      · subst hn
        have HS1 := Lib.hid (HS.out.strike hkx)
        have hde : (xa == xa) = true := beq_iff_eq.2 rfl
        clear hrg HS HG hg1 hR hat hrg1 HG1
        go_wp2_with (first | (at_delete; refine wpList_delete_ranges _ rfl (.tmp 15) (.tmp 16) 104 121 rfl 3 placeKeyed Tryz.underlying104 _ b r n D _ cnt1 rfl hp2 (pv xa xb) kl rfl hkx ?_; intro w3 cnt2 hrg3 hle hturn) | go_in)
        rw [Maps.strike_twice] at hrg3
        exact ⟨⟨_, _, _, hrg3, HS1, HG2.andThen hturn.grown (fun j hj => by cases hj; exact .inr rfl)⟩, by rw [hrg3.left_eq]; omega⟩
      · have HS1 := Lib.hid (HS.out.pass hkx hn)
        have hde : (xa == nd) = false := beq_eq_false_iff_ne.2 hn
        clear hrg HS HG hg1 hR hat hrg1 HG1
        go_wp2_with fail
        exact ⟨⟨_, _, _, hp2, HS1, HG2⟩, by rw [hp2.left_eq, hml]; omega⟩
end Go.Proofs.YtiokbebodblhaaaGreatDoor
namespace Go.Proofs.YtiokbebodblhaaaGreatDoor
open Go.RowKit Go.Maps Go.WideMaps Go.WideElems Go.ChangeMaps TraceP

/-- The entry first, its value then: as a store. -/
theorem ready_store {P : Program} {w : World} {t k e : TypeId} {R : Value → Option (DataW Unit × List MemPlace)} {b : Nat} {es : Array MapEntry} {clock : Nat} (K : Keyed P k) (ht : P.underlying t = some (.map k e)) {z : Value}
    (hz : ∀ u : World, (zeroValue e).run P u = .ok z u) (hb : w.heap[b]? = some (.map es clock)) (F : Fit P k R es clock) {key : Value} {kl : Lit} (hkey : keyOf P k key = some kl) (val : Value) :
    ∃ (v0 : Value) (st : Nat) (w1 w2 : World), w.grownBy w1 (some b) ∧ (Instr.mapEntry t (.map (some b)) key).run P w = .ok (.tuple #[v0, goInt st]) w1 ∧ (Instr.entryStore t (.map (some b)) (goInt st) val).run P w1 = .ok () w2 ∧ (Instr.mapUpdate t (.map (some b)) key val).run P w = .ok () w2 := by
  have gb : ∀ o, w.grownBy (setBlock w b o) (some b) := fun o => ⟨rfl, rfl, rfl, by simp [setBlock], fun i _ hi => heap_setBlock_other hb _ (fun e => hi (by rw [e]))⟩
  obtain ⟨s1, s2, _⟩ := F.stamped
  have twice : ∀ x y, setBlock (setBlock w b x) b y = setBlock w b y := fun x y => by simp [setBlock]
  rcases K.find w hkey es.toList F.keys with ⟨h1, _⟩ | ⟨j, e0, h1, h2, h3⟩
  · have hw1 : (setBlock w b (.map (es.push ⟨key, z, clock⟩) (clock + 1))).heap[b]? = some (.map (es.push ⟨key, z, clock⟩) (clock + 1)) := heap_setBlock_same hb _
    have hidx : (es.push ⟨key, z, clock⟩).findIdx? (fun e => ((e.born : Nat) : Int) == ((clock : Nat) : Int)) = some es.size := by
      rw [findIdx_arr]
      refine findIdx_born (l := (es.push ⟨key, z, clock⟩).toList) (j := es.size) (e0 := ⟨key, z, clock⟩) ?_ (by simp)
      rw [Array.toList_push, List.map_append]
      refine List.nodup_append.2 ⟨s2, by simp, fun a ha c hc e1 => ?_⟩
      obtain ⟨x, hx, rfl⟩ := List.mem_map.1 ha
      have := s1 x hx
      simp at hc
      omega
    have hmod : (es.push ⟨key, z, clock⟩).modify es.size (fun e => { e with val := val }) = es.push ⟨key, val, clock⟩ := by
      apply Array.ext'
      rw [Array.toList_modify, Array.toList_push, Array.toList_push, ← Array.length_toList, modify_last]
    refine ⟨z, clock, setBlock w b (.map (es.push ⟨key, z, clock⟩) (clock + 1)), setBlock w b (.map (es.push ⟨key, val, clock⟩) (clock + 1)), gb _, ?_, ?_, ?_⟩
    · simp [Instr.mapEntry, run_underlying ht, MapKept.run_getObj_map hb, K.check w false hkey, h1, hz, MapKept.run_setObj_map _ hb, Result.andThen, setBlock]
    · have e := MapKept.run_setObj_map (P := P) (.map (es.push ⟨key, val, clock⟩) (clock + 1)) hw1
      simp [Instr.entryStore, MapKept.run_getObj_map hw1, asInt, asIntOf, goInt, hidx, hmod, e, Result.andThen]
      simp [setBlock]
    · simp [Instr.mapUpdate, run_underlying ht, MapKept.run_getObj_map hb, K.check w false hkey, h1, MapKept.run_setObj_map _ hb, Result.andThen, setBlock]
  · have hj : es[j]? = some e0 := by simpa using h2
    have hsame : es.modify j (fun e => { e with key := key }) = es := by
      apply Array.ext'
      rw [Array.toList_modify, modify_eq_set _ _ _ _ h2]
      refine (congrArg (es.toList.set j) ?_).trans (set_self _ _ _ h2)
      rw [← h3]
    have hidx : es.findIdx? (fun e => ((e.born : Nat) : Int) == ((e0.born : Nat) : Int)) = some j := by
      rw [findIdx_arr]
      exact findIdx_born s2 h2
    have hmod : es.modify j (fun e => { e with val := val }) = es.modify j (fun e' => { e' with key := key, val := val }) := by
      apply Array.ext'
      rw [Array.toList_modify, Array.toList_modify, modify_eq_set _ _ _ _ h2, modify_eq_set _ _ _ _ h2, ← h3]
    have hw1 : (setBlock w b (.map es clock)).heap[b]? = some (.map es clock) := heap_setBlock_same hb _
    refine ⟨e0.val, e0.born, setBlock w b (.map es clock), setBlock w b (.map (es.modify j (fun e' => { e' with key := key, val := val })) clock), gb _, ?_, ?_, ?_⟩
    · simp [Instr.mapEntry, run_underlying ht, MapKept.run_getObj_map hb, K.check w false hkey, h1, hj, h3, K.stays w hkey, hsame, MapKept.run_setObj_map _ hb, Result.andThen, setBlock]
    · have e := MapKept.run_setObj_map (P := P) (.map (es.modify j (fun e' => { e' with key := key, val := val })) clock) hw1
      simp [Instr.entryStore, MapKept.run_getObj_map hw1, asInt, asIntOf, goInt, hidx, hmod, e, Result.andThen]
      simp [setBlock]
    · simp [Instr.mapUpdate, run_underlying ht, MapKept.run_getObj_map hb, K.check w false hkey, h1, hj, h3, K.stays w hkey, MapKept.run_setObj_map _ hb, Result.andThen, setBlock]
/-- .. of a map told key by key: two runs for the walk. -/
theorem MapO.entry {w : World} {K : TypeId} {b n : Nat} {F : Value → Option Int} (h : MapO w K b n F) {t : TypeId} (hK : Keyed Tryz.prog K) (ht : Tryz.prog.underlying t = some (.map K 3)) (hn : n < 9223372036854775807) {key : Value} {kl : Lit} (hkey : keyOf Tryz.prog K key = some kl) {c : Int} (hc : I64 c) :
    ∃ (v0 : Value) (st : Nat) (w1 w2 : World), (Instr.mapEntry t (.map (some b)) key).run Tryz.prog w = .ok (.tuple #[v0, .int .i64 (st : Int)]) w1 ∧ (Instr.entryStore t (.map (some b)) (.int .i64 (st : Int)) (.int .i64 c)).run Tryz.prog w1 = .ok () w2 ∧ MapO w2 K b (n + 1) (setV F key (some c)) ∧ w.grownBy w2 (some b) ∧ w.grownBy w1 (some b) := by
  obtain ⟨D, hown, h'⟩ := h
  have hval : plainElem (H := Unit) Tryz.prog 3 (.int .i64 c) = some (.lit (.int .i64 c), []) := plainElem_int Tryz.underlying3 (wf_i64M hc)
  obtain ⟨w', hu, h1, h2⟩ := hown.update hK ht (by unfold maxLen; omega) hkey hval
  obtain ⟨es, clock, hb, F0, _, _⟩ := id hown
  obtain ⟨v0, st, w1, w2, g1, e1, e2, e3⟩ := ready_store hK ht zeroI hb F0 hkey (.int .i64 c)
  rw [e3] at hu
  injection hu with _ hu
  subst hu
  refine ⟨v0, st, w1, w2, e1, e2, ⟨_, h1, fun key' kl' hkey' => ?_⟩, h2, g1⟩
  by_cases e : key' = key
  · subst e
    obtain rfl : kl = kl' := Option.some.inj (hkey.symm.trans hkey')
    rw [setV_same, has_put_same hown.isMap (hK.key hkey), atKey_put_same hown.isMap (hK.key hkey)]
    exact ⟨rfl, rfl⟩
  · have e' : kl' ≠ kl := fun q => e (hK.inj hkey' (q ▸ hkey))
    rw [setV_other _ e, has_put_other e', atKey_put_other e']
    exact h' key' kl' hkey'
end Go.Proofs.YtiokbebodblhaaaGreatDoor
namespace Go.Proofs.YtiokbebodblhaaaGreatDoor
open Go.RowKit Go.Maps Go.WideMaps TraceP

/-- Where the state lies. -/
structure StB where
  g : Nat
  o : Nat
  wt : Nat
  fl : Nat
  fe : Nat
def StB.cells (B : StB) (t : Int) : Array Value := #[.int .i64 t, .map (some B.o), .map (some B.wt), .map (some B.fl), .map (some B.fe)]
def ObjF (F : Value → Option Int) (f : Txt → Nat) : Prop := ∀ o, (F (.string (bstr o))).getD 0 = (f o : Int)
def PlcF (F : Value → Option Int) (f : Int → Int → Nat) : Prop := ∀ a b, (F (pv a b)).getD 0 = (f a b : Int)
def NumF (F : Value → Option Int) (f : Int → Int) : Prop := ∀ a, (F (.int .i64 a)).getD 0 = f a
structure StOK (w0 : Nat) (w : World) (B : StB) (n : Nat) (s : PSt) : Prop where
  lo : w0 ≤ B.g ∧ w0 ≤ B.o ∧ w0 ≤ B.wt ∧ w0 ≤ B.fl ∧ w0 ≤ B.fe
  ne : (B.g ≠ B.o ∧ B.g ≠ B.wt ∧ B.g ≠ B.fl ∧ B.g ≠ B.fe) ∧ (B.o ≠ B.wt ∧ B.o ≠ B.fl ∧ B.o ≠ B.fe) ∧ (B.wt ≠ B.fl ∧ B.wt ≠ B.fe) ∧ B.fl ≠ B.fe
  blk : Blk w B.g 107 (B.cells s.tick)
  mo : ∃ F, MapO w 9 B.o n F ∧ ObjF F s.obj
  mw : ∃ F, MapO w 121 B.wt n F ∧ PlcF F s.wt
  mf : ∃ F, MapO w 121 B.fl n F ∧ PlcF F s.fl
  me : ∃ F, MapO w 3 B.fe n F ∧ NumF F s.fe
theorem ObjF.set {F : Value → Option Int} {f : Txt → Nat} (h : ObjF F f) (o : Txt) {x : Option Int} {c : Nat} (hx : x.getD 0 = (c : Int)) : ObjF (setV F (.string (bstr o)) x) (setO f o c) := fun o' => by
  unfold setO
  by_cases e : o' = o
  · subst e
    rw [setV_same, if_pos rfl, hx]
  · rw [setV_other _ (fun q => e (bstr_inj (by injection q))), if_neg e]
    exact h o'
theorem PlcF.set {F : Value → Option Int} {f : Int → Int → Nat} (h : PlcF F f) (a b : Int) {x : Option Int} {c : Nat} (hx : x.getD 0 = (c : Int)) : PlcF (setV F (pv a b) x) (setP f a b c) := fun a' b' => by
  unfold setP
  by_cases e : a' = a ∧ b' = b
  · obtain ⟨rfl, rfl⟩ := e
    rw [setV_same, if_pos ⟨rfl, rfl⟩, hx]
  · rw [setV_other _ (fun q => e (pv_inj q)), if_neg e]
    exact h a' b'
theorem PlcF.drop {F : Value → Option Int} {f : Int → Int → Nat} (h : PlcF F f) (nd : Int) : PlcF (dropV F nd) (dropP f nd) := fun a b => by
  rw [dropV_pv]
  unfold dropP
  split
  · rfl
  · exact h a b
theorem NumF.set {F : Value → Option Int} {f : Int → Int} (h : NumF F f) (a : Int) {x : Option Int} {c : Int} (hx : x.getD 0 = c) : NumF (setV F (.int .i64 a) x) (setN f a c) := fun a' => by
  unfold setN
  by_cases e : a' = a
  · subst e
    rw [setV_same, if_pos rfl, hx]
  · rw [setV_other _ (fun q => e (by injection q)), if_neg e]
    exact h a'
section
variable {w0 : Nat} {w w' : World} {B : StB} {n m : Nat} {s : PSt}
theorem MapO.grown {K : TypeId} {b : Nat} {F : Value → Option Int} (h : MapO w K b n F) {row : Option Nat} (hg : w.grownBy w' row) (hne : some b ≠ row) (hn : n ≤ m) : MapO w' K b m F := (h.kept hg hne).mono hn
theorem Blk.grownB {g : Nat} {t : TypeId} {cs : Array Value} (h : Blk w g t cs) {row : Option Nat} (hg : w.grownBy w' row) (hne : some g ≠ row) : Blk w' g t cs := (hg.block g h.lt hne).trans h
theorem StOK.of_below (h : StOK w0 w B n s) (d : Below w.heap.size w w') : StOK w0 w' B n s := by
  obtain ⟨lo, ne, hb, ⟨F1, m1, f1⟩, ⟨F2, m2, f2⟩, ⟨F3, m3, f3⟩, ⟨F4, m4, f4⟩⟩ := h
  exact ⟨lo, ne, hb.below d hb.lt, ⟨F1, m1.of_block (d.block _ m1.lt), f1⟩, ⟨F2, m2.of_block (d.block _ m2.lt), f2⟩, ⟨F3, m3.of_block (d.block _ m3.lt), f3⟩, ⟨F4, m4.of_block (d.block _ m4.lt), f4⟩⟩
theorem StOK.alloc (h : StOK w0 w B n s) (o : Obj) : StOK w0 (w.alloc o) B n s := h.of_below ((Below.refl _ _).alloc (Nat.le_refl _) o)
theorem StOK.more (h : StOK w0 w B n s) (hn : n ≤ m) : StOK w0 w B m s := by
  obtain ⟨lo, ne, hb, ⟨F1, m1, f1⟩, ⟨F2, m2, f2⟩, ⟨F3, m3, f3⟩, ⟨F4, m4, f4⟩⟩ := h
  exact ⟨lo, ne, hb, ⟨F1, m1.mono hn, f1⟩, ⟨F2, m2.mono hn, f2⟩, ⟨F3, m3.mono hn, f3⟩, ⟨F4, m4.mono hn, f4⟩⟩
theorem StOK.obj_ (h : StOK w0 w B n s) (hg : w.grownBy w' (some B.o)) (hn : n ≤ m) {F : Value → Option Int} {f : Txt → Nat} (hm : MapO w' 9 B.o m F) (hf : ObjF F f) : StOK w0 w' B m { s with obj := f } := by
  obtain ⟨lo, ne, hb, _, ⟨F2, m2, f2⟩, ⟨F3, m3, f3⟩, ⟨F4, m4, f4⟩⟩ := h
  have n1 := ne.1
  have n2 := ne.2.1
  exact ⟨lo, ne, hb.grownB hg (by simpa using n1.1), ⟨F, hm, hf⟩, ⟨F2, m2.grown hg (by simpa using n2.1.symm) hn, f2⟩, ⟨F3, m3.grown hg (by simpa using n2.2.1.symm) hn, f3⟩, ⟨F4, m4.grown hg (by simpa using n2.2.2.symm) hn, f4⟩⟩
theorem StOK.wt_ (h : StOK w0 w B n s) (hg : w.grownBy w' (some B.wt)) (hn : n ≤ m) {F : Value → Option Int} {f : Int → Int → Nat} (hm : MapO w' 121 B.wt m F) (hf : PlcF F f) : StOK w0 w' B m { s with wt := f } := by
  obtain ⟨lo, ne, hb, ⟨F1, m1, f1⟩, _, ⟨F3, m3, f3⟩, ⟨F4, m4, f4⟩⟩ := h
  have n1 := ne.1
  have n2 := ne.2.1
  have n3 := ne.2.2.1
  exact ⟨lo, ne, hb.grownB hg (by simpa using n1.2.1), ⟨F1, m1.grown hg (by simpa using n2.1) hn, f1⟩, ⟨F, hm, hf⟩, ⟨F3, m3.grown hg (by simpa using n3.1.symm) hn, f3⟩, ⟨F4, m4.grown hg (by simpa using n3.2.symm) hn, f4⟩⟩
theorem StOK.fl_ (h : StOK w0 w B n s) (hg : w.grownBy w' (some B.fl)) (hn : n ≤ m) {F : Value → Option Int} {f : Int → Int → Nat} (hm : MapO w' 121 B.fl m F) (hf : PlcF F f) : StOK w0 w' B m { s with fl := f } := by
  obtain ⟨lo, ne, hb, ⟨F1, m1, f1⟩, ⟨F2, m2, f2⟩, _, ⟨F4, m4, f4⟩⟩ := h
  have n1 := ne.1
  have n2 := ne.2.1
  have n3 := ne.2.2.1
  have n4 := ne.2.2.2
  exact ⟨lo, ne, hb.grownB hg (by simpa using n1.2.2.1), ⟨F1, m1.grown hg (by simpa using n2.2.1) hn, f1⟩, ⟨F2, m2.grown hg (by simpa using n3.1) hn, f2⟩, ⟨F, hm, hf⟩, ⟨F4, m4.grown hg (by simpa using n4.symm) hn, f4⟩⟩
theorem StOK.fe_ (h : StOK w0 w B n s) (hg : w.grownBy w' (some B.fe)) (hn : n ≤ m) {F : Value → Option Int} {f : Int → Int} (hm : MapO w' 3 B.fe m F) (hf : NumF F f) : StOK w0 w' B m { s with fe := f } := by
  obtain ⟨lo, ne, hb, ⟨F1, m1, f1⟩, ⟨F2, m2, f2⟩, ⟨F3, m3, f3⟩, _⟩ := h
  have n1 := ne.1
  have n2 := ne.2.1
  have n3 := ne.2.2.1
  have n4 := ne.2.2.2
  exact ⟨lo, ne, hb.grownB hg (by simpa using n1.2.2.2), ⟨F1, m1.grown hg (by simpa using n2.2.2) hn, f1⟩, ⟨F2, m2.grown hg (by simpa using n3.2) hn, f2⟩, ⟨F3, m3.grown hg (by simpa using n4) hn, f3⟩, ⟨F, hm, hf⟩⟩
/-- A new tick. -/
theorem StOK.tick_ (h : StOK w0 w B n s) (t : Int) : StOK w0 (w.setCell ⟨B.g, 0, none⟩ (.int .i64 t)) B n { s with tick := t } := by
  obtain ⟨lo, ne, hb, ⟨F1, m1, f1⟩, ⟨F2, m2, f2⟩, ⟨F3, m3, f3⟩, ⟨F4, m4, f4⟩⟩ := h
  have n1 := ne.1
  have hb' := hb.set_ 0 (.int .i64 t)
  exact ⟨lo, ne, hb', ⟨F1, m1.setCell (fun e => n1.1 e.symm) _, f1⟩, ⟨F2, m2.setCell (fun e => n1.2.1 e.symm) _, f2⟩, ⟨F3, m3.setCell (fun e => n1.2.2.1 e.symm) _, f3⟩, ⟨F4, m4.setCell (fun e => n1.2.2.2 e.symm) _, f4⟩⟩
end
/-- The event's block, and a block of the call's own, are none of the state's. -/
structure Apart (B : StB) (x : Nat) : Prop where
  g : x ≠ B.g
  o : x ≠ B.o
  wt : x ≠ B.wt
  fl : x ≠ B.fl
  fe : x ≠ B.fe
theorem StOK.apart {w0 n : Nat} {w : World} {B : StB} {s : PSt} (h : StOK w0 w B n s) {g : Nat} (hg : w.heap.size ≤ g) : Apart B g := by
  obtain ⟨lo, ne, hb, ⟨F1, m1, f1⟩, ⟨F2, m2, f2⟩, ⟨F3, m3, f3⟩, ⟨F4, m4, f4⟩⟩ := h
  have := hb.lt
  have := m1.lt
  have := m2.lt
  have := m3.lt
  have := m4.lt
  exact ⟨by omega, by omega, by omega, by omega, by omega⟩
/-- The state's blocks. -/
def StF (B : StB) (k : Nat) : Prop := k = B.g ∨ k = B.o ∨ k = B.wt ∨ k = B.fl ∨ k = B.fe
theorem Apart.out {B : StB} {x : Nat} (h : Apart B x) : ¬ StF B x := by
  rintro (q | q | q | q | q)
  · exact h.g q
  · exact h.o q
  · exact h.wt q
  · exact h.fl q
  · exact h.fe q
/-- What a method of the state leaves. -/
structure May (w0 : Nat) (B : StB) (m : Nat) (s : PSt) (w w' : World) : Prop where
  ok : StOK w0 w' B m s
  kp : Kept (StF B) w w'
theorem StOK.low {w0 n : Nat} {w : World} {B : StB} {s : PSt} (h : StOK w0 w B n s) {k : Nat} (hk : StF B k) : w0 ≤ k := by
  obtain ⟨l1, l2, l3, l4, l5⟩ := h.lo
  rcases hk with q | q | q | q | q <;> omega
end Go.Proofs.YtiokbebodblhaaaGreatDoor
