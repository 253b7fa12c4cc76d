/-
  Maps of numbers that the call has made, told key by key: made, asked, written, struck, emptied of a node.
-/
import Derived.Test.YtiokbebodblhaaaGreatDoorProg
import Derived.Test.YtiokbebodblhaaaGreatDoorTMemo
import Derived.Maps.RangeWalk
import Derived.DeepKeys4
import Derived.Test.YtiokbebodblhaaaGreatDoorTWri
import Derived.Deep.Cut
namespace Go.Proofs.YtiokbebodblhaaaGreatDoor
open Go.RowKit Go.Maps Go.WideMaps TraceP

theorem laidOutM : laidOutB Tryz.prog = true := by kernel_rfl
/- ### Keys -/
def pv (a b : Int) : Value := .agg #[.int .i64 a, .int .i64 b]
theorem wf_i64M {a : Int} (h : I64 a) : (Lit.int .i64 a).wf = true := by
  obtain ⟨h1, h2⟩ := h
  simp [Lit.wf, IntKind.min, IntKind.max, IntKind.signed, IntKind.bits]
  omega
theorem placeKeyed : Keyed Tryz.prog 121 :=
  Keyed.of_law (deep_law_laid laidOutM (m := 2) (by omega) (of_decide_eq_true (by kernel_rfl)) (by kernel_rfl) (by rw [Tryz.underlying121]))
theorem lits_int (n : Nat) {a : Int} (h : I64 a) : Tryz.prog.keyLits (n + 1) 3 [.int .i64 a] = some [.int .i64 a] := by
  simp [Program.keyLits, Tryz.underlying3, wf_i64M h]
theorem lits_place (n : Nat) {a b : Int} (ha : I64 a) (hb : I64 b) : Tryz.prog.keyLits (n + 2) 121 [.int .i64 a, .int .i64 b] = some [.int .i64 a, .int .i64 b] := by
  have c1 : Tryz.prog.cellsOf 3 = 1 := by kernel_rfl
  have c2 : Tryz.prog.cellsOf 121 = 2 := by kernel_rfl
  have e1 := lits_int n ha
  have e2 := lits_int n hb
  unfold Program.keyLits
  simp only [Tryz.underlying121]
  simp [c1, c2, e1, e2]
theorem key_place {a b : Int} (ha : I64 a) (hb : I64 b) : ∃ kl, keyOf Tryz.prog 121 (pv a b) = some kl := by
  have c2 : Tryz.prog.cellsOf 121 = 2 := by kernel_rfl
  have h1 : Tryz.prog.keyType 121 = true := by kernel_rfl
  obtain ⟨n, hn⟩ : ∃ n, Tryz.prog.types.size + 1 = n + 2 := ⟨Tryz.prog.types.size - 1, by
    have : 1 ≤ Tryz.prog.types.size := of_decide_eq_true (by kernel_rfl)
    omega⟩
  have e := lits_place n ha hb
  unfold keyOf pv
  rw [Tryz.underlying121, hn]
  simp [h1, Value.formed, Tryz.underlying121, c2, Value.cells, e]
theorem lits_int_inv {d : Nat} {v : Value} {y : List Lit} (h : Tryz.prog.keyLits d 3 [v] = some y) : ∃ a, v = .int .i64 a := by
  cases d with
  | zero => simp [Program.keyLits] at h
  | succ d =>
    unfold Program.keyLits at h
    simp only [Tryz.underlying3] at h
    cases v <;> simp at h
    obtain ⟨⟨rfl, _⟩, _⟩ := h
    exact ⟨_, rfl⟩
theorem lits_place_inv {d : Nat} {v0 v1 : Value} {y : List Lit} (h : Tryz.prog.keyLits d 121 [v0, v1] = some y) : ∃ a b, v0 = .int .i64 a ∧ v1 = .int .i64 b := by
  have c1 : Tryz.prog.cellsOf 3 = 1 := by kernel_rfl
  have c2 : Tryz.prog.cellsOf 121 = 2 := by kernel_rfl
  cases d with
  | zero => simp [Program.keyLits] at h
  | succ d =>
    unfold Program.keyLits at h
    simp only [Tryz.underlying121] at h
    cases h0 : Tryz.prog.keyLits d 3 [v0] with
    | none => simp [c1, c2, h0] at h
    | some y0 =>
      cases h1 : Tryz.prog.keyLits d 3 [v1] with
      | none => simp [c1, c2, h0, h1] at h
      | some y1 =>
        obtain ⟨a, ha⟩ := lits_int_inv h0
        obtain ⟨b, hb⟩ := lits_int_inv h1
        exact ⟨a, b, ha, hb⟩
theorem arr2M {cs : Array Value} (h : cs.size = 2) : ∃ v0 v1, cs = #[v0, v1] := by
  match cs, h with
  | ⟨[v0, v1]⟩, _ => exact ⟨v0, v1, rfl⟩
theorem place_inv (key : Value) (kl : Lit) (h : keyOf Tryz.prog 121 key = some kl) : ∃ x : Int × Int, key = pv x.1 x.2 := by
  have c2 : Tryz.prog.cellsOf 121 = 2 := by kernel_rfl
  unfold keyOf at h
  simp only [Tryz.underlying121] at h
  split at h
  · rename_i hf
    obtain ⟨ls, hls, _⟩ := Option.map_eq_some_iff.1 h
    simp only [Bool.and_eq_true] at hf
    have hF := hf.2
    cases key <;> simp [Value.formed, Tryz.underlying121, c2] at hF
    rename_i cs
    obtain ⟨v0, v1, e⟩ := arr2M hF
    subst e
    obtain ⟨a, b, rfl, rfl⟩ := lits_place_inv hls
    exact ⟨(a, b), rfl⟩
  · exact absurd h (by simp)
theorem zeroI (w : World) : (zeroValue 3).run Tryz.prog w = .ok (.int .i64 0) w := by kernel_rfl

/- ### A map, key by key -/
/-- Block b is a map of at most n entries; F says which keys are there, and what they have. -/
def MapO (w : World) (K : TypeId) (b n : Nat) (F : Value → Option Int) : Prop :=
  ∃ D : DataW Unit, w.ownsMap Tryz.prog K (plainElem Tryz.prog 3) b n D ∧ ∀ key kl, keyOf Tryz.prog K key = some kl → Maps.has D kl = (F key).isSome ∧ D.atKey kl (.lit (.int .i64 0)) = .lit (.int .i64 ((F key).getD 0))
noncomputable def setV (F : Value → Option Int) (k : Value) (x : Option Int) : Value → Option Int := fun v => by classical exact if v = k then x else F v
theorem setV_same (F : Value → Option Int) (k : Value) (x : Option Int) : setV F k x k = x := by simp [setV]
theorem setV_other {F : Value → Option Int} {k v : Value} (x : Option Int) (h : v ≠ k) : setV F k x v = F v := by simp [setV, h]
section
variable {w w' : World} {K : TypeId} {b n : Nat} {F : Value → Option Int}
theorem MapO.made (w : World) (K : TypeId) : MapO (w.alloc (.map #[] 0)) K w.heap.size 0 (fun _ => none) :=
  ⟨.map [], World.ownsMap_made _ _ _ _, fun _ _ _ => ⟨rfl, rfl⟩⟩
theorem MapO.lt (h : MapO w K b n F) : b < w.heap.size := by obtain ⟨D, h, _⟩ := h; exact h.lt
theorem MapO.mono (h : MapO w K b n F) {n' : Nat} (hn : n ≤ n') : MapO w K b n' F := by obtain ⟨D, h, h'⟩ := h; exact ⟨D, h.mono hn, h'⟩
theorem MapO.kept (h : MapO w K b n F) {row : Option Nat} (hg : w.grownBy w' row) (hne : some b ≠ row) : MapO w' K b n F := by obtain ⟨D, h, h'⟩ := h; exact ⟨D, h.kept hg hne, h'⟩
theorem MapO.alloc (h : MapO w K b n F) (o : Obj) : MapO (w.alloc o) K b n F := by obtain ⟨D, h, h'⟩ := h; exact ⟨D, h.alloc o, h'⟩
theorem MapO.setCell (h : MapO w K b n F) {a : Addr} (ha : b ≠ a.block) (u : Value) : MapO (w.setCell a u) K b n F := by obtain ⟨D, h, h'⟩ := h; exact ⟨D, h.setCell ha u, h'⟩
theorem MapO.of_block (h : MapO w K b n F) (e : w'.heap[b]? = w.heap[b]?) : MapO w' K b n F := by
  obtain ⟨D, ⟨es, clock, hb, r⟩, h'⟩ := h
  exact ⟨D, ⟨es, clock, e.trans hb, r⟩, h'⟩
end
section
variable {w : World} {ops : Array Oper} {rest : List Oper} {o : Oper} {a : Act} {Q : Exit → Act → World → Prop}
/-- 'v, ok := m[k]'. -/
theorem wpList_look_ok_O (hg : o.guard = none) (m x : Operand) (t K : TypeId) (hop : o.op = Op.lookup t m x true) (hK : Keyed Tryz.prog K) (ht : Tryz.prog.underlying t = some (.map K 3)) (b n : Nat) (F : Value → Option Int)
    (hm : a.eval m = .map (some b)) (h : MapO w K b n F) (key : Value) (kl : Lit) (hx : a.eval x = key) (hkey : keyOf Tryz.prog K key = some kl)
    (hk : wpList Tryz.prog ops Q rest (a.put o.dst (.tuple #[.int .i64 ((F key).getD 0), .bool (F key).isSome])) w) : wpList Tryz.prog ops Q (o :: rest) a w := by
  obtain ⟨D, h, h'⟩ := h
  refine wpList_lookup_own_ok_int w hg m x t hop K 3 .i64 hK ht Tryz.underlying3 (zeroI _) b n D hm h key kl hx hkey ?_
  intro c hat _
  rw [(h' key kl hkey).2] at hat
  injection hat with hat
  injection hat with _ hat
  rw [← hat, (h' key kl hkey).1]
  exact hk
/-- 'm[k] = v'. -/
theorem wpList_store_O (hg : o.guard = none) (m x v : Operand) (t K : TypeId) (hop : o.op = Op.mapUpdate t m x v) (hK : Keyed Tryz.prog K) (ht : Tryz.prog.underlying t = some (.map K 3)) (b n : Nat) (F : Value → Option Int)
    (hm : a.eval m = .map (some b)) (h : MapO w K b n F) (hn : n < 9223372036854775807) (key : Value) (c : Int) (kl : Lit) (hx : a.eval x = key) (hv : a.eval v = .int .i64 c) (hkey : keyOf Tryz.prog K key = some kl) (hc : I64 c)
    (hk : ∀ w', MapO w' K b (n + 1) (setV F key (some c)) → w.grownBy w' (some b) → wpList Tryz.prog ops Q rest (a.put o.dst undef) w') : wpList Tryz.prog ops Q (o :: rest) a w := by
  obtain ⟨D, h, h'⟩ := h
  refine wpList_mapUpdate_own w hg m x v t hop K 3 hK ht _ b n D hm h (by unfold maxLen; omega) key (.int .i64 c) kl hx hv hkey _ [] (plainElem_int Tryz.underlying3 (wf_i64M hc)) ?_
  intro w' h1 h2
  refine hk w' ⟨_, h1, fun key' kl' hkey' => ?_⟩ h2
  by_cases e : key' = key
  · subst e
    obtain rfl : kl = kl' := Option.some.inj (hkey.symm.trans hkey')
    rw [setV_same, has_put_same h.isMap (hK.key hkey), atKey_put_same h.isMap (hK.key hkey)]
    exact ⟨rfl, rfl⟩
  · have e' : kl' ≠ kl := fun q => e (hK.inj hkey' (q ▸ hkey))
    rw [setV_other _ e, has_put_other e', atKey_put_other e']
    exact h' key' kl' hkey'
/-- 'delete(m, k)'. -/
theorem wpList_delete_O (hg : o.guard = none) (m x : Operand) (t K : TypeId) (hop : o.op = Op.call { callee := Callee.builtin Builtin.delete, args := #[m, x], argTypes := #[t, K] }) (hK : Keyed Tryz.prog K) (ht : Tryz.prog.underlying t = some (.map K 3)) (b n : Nat) (F : Value → Option Int)
    (hm : a.eval m = .map (some b)) (h : MapO w K b n F) (key : Value) (kl : Lit) (hx : a.eval x = key) (hkey : keyOf Tryz.prog K key = some kl)
    (hk : ∀ w', MapO w' K b n (setV F key none) → w.grownBy w' (some b) → wpList Tryz.prog ops Q rest (a.put o.dst (.tuple #[])) w') : wpList Tryz.prog ops Q (o :: rest) a w := by
  obtain ⟨D, h, h'⟩ := h
  refine wpList_delete_own w hg m x t K hop 3 hK ht _ b n D hm h key kl hx hkey ?_
  intro w' h1 h2
  refine hk w' ⟨_, h1, fun key' kl' hkey' => ?_⟩ h2.grown
  by_cases e : key' = key
  · subst e
    obtain rfl : kl = kl' := Option.some.inj (hkey.symm.trans hkey')
    rw [setV_same, has_del_same, atKey_del_same]
    exact ⟨rfl, rfl⟩
  · have e' : kl' ≠ kl := fun q => e (hK.inj hkey' (q ▸ hkey))
    rw [setV_other _ e, has_del_other e', atKey_del_other e']
    exact h' key' kl' hkey'
end
end Go.Proofs.YtiokbebodblhaaaGreatDoor
namespace Go.Proofs.YtiokbebodblhaaaGreatDoor
open Go.RowKit Go.Maps Go.WideMaps TraceP

/-- What is left when all of a node are gone that have been met. -/
noncomputable def gone (F : Value → Option Int) (nd : Int) (left : Bool) (v : Value) : Option Int := by
  classical exact if (∃ x, v = pv nd x) ∧ left = false then none else F v
noncomputable def dropV (F : Value → Option Int) (nd : Int) (v : Value) : Option Int := gone F nd false v
theorem gone_left (F : Value → Option Int) (nd : Int) (v : Value) : gone F nd true v = F v := by simp [gone]
theorem gone_other {F : Value → Option Int} {nd : Int} {v : Value} (left : Bool) (h : ∀ x, v ≠ pv nd x) : gone F nd left v = F v := by
  unfold gone
  rw [if_neg]
  rintro ⟨⟨x, e⟩, _⟩
  exact h x e
theorem gone_node {F : Value → Option Int} {nd x : Int} : gone F nd false (pv nd x) = none := by
  unfold gone
  rw [if_pos ⟨⟨x, rfl⟩, rfl⟩]
theorem dropV_pv (F : Value → Option Int) (nd a b : Int) : dropV F nd (pv a b) = if a = nd then none else F (pv a b) := by
  unfold dropV
  by_cases h : a = nd
  · subst h
    rw [gone_node, if_pos rfl]
  · rw [if_neg h]
    exact gone_other _ fun x e => h (by unfold pv at e; injection e with e; injection e with e; injection e with e _; injection e)
theorem pv_inj {a b x y : Int} (h : pv a b = pv x y) : a = x ∧ b = y := by
  unfold pv at h
  simpa using h
/-- What the round's map says. -/
def Says (D : DataW Unit) (F : Value → Option Int) (nd : Int) (left : Lit → Bool) : Prop :=
  ∀ key kl, keyOf Tryz.prog 121 key = some kl → Maps.has D kl = (gone F nd (left kl) key).isSome ∧ D.atKey kl (.lit (.int .i64 0)) = .lit (.int .i64 ((gone F nd (left kl) key).getD 0))
/-- An entry of another node was met. -/
theorem Says.pass {D : DataW Unit} {F : Value → Option Int} {nd : Int} {left : Lit → Bool} (h : Says D F nd left) {a b : Int} {kl : Lit} (hk : keyOf Tryz.prog 121 (pv a b) = some kl) (hn : a ≠ nd) : Says D F nd (fun z => left z && !z.sameKey kl) := by
  intro key' kl' hk'
  have := h key' kl' hk'
  by_cases e : kl' = kl
  · subst e
    obtain rfl := placeKeyed.inj hk hk'
    have hne : ∀ x, pv a b ≠ pv nd x := fun x e => hn (pv_inj e).1
    rw [gone_other _ hne] at this ⊢
    exact this
  · have hs : kl'.sameKey kl = false := sameKey_ne e
    simpa [hs] using this
/-- .. of the node: it is struck. -/
theorem Says.strike {D : DataW Unit} {F : Value → Option Int} {nd : Int} {left : Lit → Bool} (h : Says D F nd left) {b : Int} {kl : Lit} (hk : keyOf Tryz.prog 121 (pv nd b) = some kl) : Says (D.del kl) F nd (fun z => left z && !z.sameKey kl) := by
  intro key' kl' hk'
  have := h key' kl' hk'
  by_cases e : kl' = kl
  · subst e
    obtain rfl := placeKeyed.inj hk hk'
    have hs : kl'.sameKey kl' = true := WideAt.sameKey_self (placeKeyed.key hk)
    rw [has_del_same, atKey_del_same]
    simp only [hs, Bool.not_true, Bool.and_false]
    rw [gone_node]
    exact ⟨rfl, rfl⟩
  · have hs : kl'.sameKey kl = false := sameKey_ne e
    rw [has_del_other e, atKey_del_other e]
    simpa [hs] using this
theorem elem_inv (v : Value) (y : DataW Unit × List MemPlace) (h : plainElem Tryz.prog 3 v = some y) : ∃ c : Int, v = .int .i64 c := by
  obtain ⟨c, e, _⟩ := plainElem_int_inv Tryz.underlying3 h
  exact ⟨c, e⟩
set_option maxRecDepth 100000 in
set_option maxHeartbeats 1600000 in
theorem drop_calls (w : World) (b n : Nat) (F : Value → Option Int) (nd : Int) (h : MapO w 121 b n F) :
    Calls Tryz.prog 58 #[.map (some b), .int .i64 nd] w fun e w' => e = .returned (.tuple #[]) ∧ MapO w' 121 b n (dropV F nd) ∧ w.grownBy w' (some b) := by
  obtain ⟨D0, hown, hF⟩ := h
  have hbl := hown.lt
  have S0 : Says D0 F nd (Maps.has D0) := by
    intro key kl hk
    obtain ⟨h1, h2⟩ := hF key kl hk
    cases hh : Maps.has D0 kl
    · rw [hh] at h1
      have e : F key = none := by simpa using h1.symm
      have e' : gone F nd false key = none := by unfold gone; split <;> simp [e]
      rw [e']
      rw [e] at h2
      exact ⟨rfl, h2⟩
    · rw [gone_left]
      rw [hh] at h1
      exact ⟨h1, h2⟩
  replace S0 := Lib.hid S0
  go_enter Tryz.func58, Tryz.ntmps58
  go_wp2_with (first | (at_range; refine wpList_range_own _ rfl (.tmp 5) 104 rfl 121 3 placeKeyed Tryz.underlying104 _ b n D0 rfl hown ?_; intro w0 hrg0 hg0 hs0) | go_in)
  go_frame
  obtain ⟨r, hr⟩ : ∃ r, r = w.heap.size := ⟨_, rfl⟩
  rw [← hr] at hrg0 ⊢
  have hrn : w.heap.size ≤ r := by omega
  have hg1 := hg0.but (some b)
  clear hr hown hF hs0 hg0
  go_loopw [7] (fun _ wr => ∃ left cnt D, wr.ranges Tryz.prog 121 (plainElem Tryz.prog 3) b r n D left cnt ∧ Hid (Says D F nd left) ∧ w.grownBy wr (some b)) (fun _ wr => wr.rangeLeft b r)
  case atStart => exact ⟨_, _, _, hrg0, S0, hg1⟩
  case round =>
    clear S0 hrg0 hg1 w0
    obtain ⟨left, cnt, D, hrg, HS, HG⟩ := hrel
    have hbr : b < wr.heap.size := hrg.owns.lt
    go_upto_region 1 with fail
    with_reducible refine wp_region_lit ?_
    with_reducible refine wpList_next_ranges _ rfl (.tmp 6) rfl 121 placeKeyed (plainElem Tryz.prog 3) (fun x : Int × Int => pv x.1 x.2) (fun c : Int => Value.int .i64 c) place_inv elem_inv b r n D left cnt (by kernel_rfl) hrg ?_ ?_
    · intro _ hl0
      have HM : MapO wr 121 b n (dropV F nd) := ⟨D, hrg.owns, fun key kl hk => by
        have := HS.out key kl hk
        rw [hl0 kl] at this
        exact this⟩
      clear HS hrg
      go_wp2_with fail
      go_end0
      exact ⟨rfl, HM, HG⟩
    · intro x cv kl y w1 cnt1 hkx hlk hR hat hrg1 hlt hg1 hs1 hen
      obtain ⟨xa, xb⟩ := x
      have HG1 : w.grownBy w1 (some b) := HG.andThen hg1 (fun j hj => by cases hj; exact .inl hrn)
      have hml := hrg.left_eq
      simp only [pv] at hen
      have hrn1 : r < w1.heap.size := hrg1.lt
      have hbn1 : b < w1.heap.size := hrg1.owns.lt
      have hp2 := hrg1.alloc (.cells #[.int .i64 xa, .int .i64 xb] 121)
      have HG2 : w.grownBy (w1.alloc (.cells #[.int .i64 xa, .int .i64 xb] 121)) (some b) := HG1.andThen (World.grownBy_alloc w1 _ none) (fun j hj => by cases hj)
      by_cases hn : xa = nd
      · subst hn
        have HS1 := Lib.hid (HS.out.strike hkx)
        have hde : (xa == xa) = true := beq_iff_eq.2 rfl
        clear hrg HS HG hg1 hR hat hrg1 HG1
        go_wp2_with (first | (at_delete; refine wpList_delete_ranges _ rfl (.tmp 15) (.tmp 16) 104 121 rfl 3 placeKeyed Tryz.underlying104 _ b r n D _ cnt1 rfl hp2 (pv xa xb) kl rfl hkx ?_; intro w3 cnt2 hrg3 hle hturn) | go_in)
        rw [Maps.strike_twice] at hrg3
        exact ⟨⟨_, _, _, hrg3, HS1, HG2.andThen hturn.grown (fun j hj => by cases hj; exact .inr rfl)⟩, by rw [hrg3.left_eq]; omega⟩
      · have HS1 := Lib.hid (HS.out.pass hkx hn)
        have hde : (xa == nd) = false := beq_eq_false_iff_ne.2 hn
        clear hrg HS HG hg1 hR hat hrg1 HG1
        go_wp2_with fail
        exact ⟨⟨_, _, _, hp2, HS1, HG2⟩, by rw [hp2.left_eq, hml]; omega⟩
end Go.Proofs.YtiokbebodblhaaaGreatDoor
