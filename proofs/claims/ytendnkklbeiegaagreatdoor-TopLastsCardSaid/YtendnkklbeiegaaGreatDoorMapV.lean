/-
  Maps that the call has made, of whatever elements, told key by key, with how many entries there are: made, asked, written, struck, counted.
-/
import Derived.Test.YtendnkklbeiegaaGreatDoorProg
import Derived.Test.YtendnkklbeiegaaGreatDoorMAI
import Derived.Maps.RangeWalk
import Derived.DeepKeys4
namespace Go.Proofs.YtendnkklbeiegaaGreatDoor
open Go.RowKit Go.Maps Go.WideMaps

/- ### Keys and zero values -/
/- ### Any element reads as itself -/
def anyE (v : Value) : Option (DataW Value × List MemPlace) := some (.held v, [])
/-- Block b is a map of m entries; F says which keys are there, and what they have. -/
def MapV (w : World) (K : TypeId) (b m : Nat) (F : Value → Option Value) : Prop :=
  ∃ D : DataW Value, w.ownsMap Tryz.prog K anyE b m D ∧ Maps.size D = m ∧ ∀ key kl, keyOf Tryz.prog K key = some kl → Maps.has D kl = (F key).isSome ∧ ∀ z, D.atKey kl (.held z) = .held ((F key).getD z)
noncomputable def setM (F : Value → Option Value) (k : Value) (x : Option Value) : Value → Option Value := fun v => by classical exact if v = k then x else F v
theorem setM_same (F : Value → Option Value) (k : Value) (x : Option Value) : setM F k x k = x := by simp [setM]
theorem setM_other {F : Value → Option Value} {k v : Value} (x : Option Value) (h : v ≠ k) : setM F k x v = F v := by simp [setM, h]
section
variable {H : Type}
theorem size_put {D : DataW H} {kl : Lit} {d : DataW H} (h : IsMap D) (hn : Maps.has D kl = false) : Maps.size (D.put kl d) = Maps.size D + 1 := by
  obtain ⟨es, rfl⟩ := h
  have e : es.filter (ChangeMaps.notKey kl) = es := List.filter_eq_self.2 fun p hp => by
    have := List.any_eq_false.1 hn p hp
    unfold ChangeMaps.notKey
    simpa using this
  show (DataW.insert (kl, d) (es.filter (ChangeMaps.notKey kl))).length = es.length + 1
  rw [e, length_insert]
theorem filter_size (kl : Lit) : ∀ es : List (Lit × DataW H), es.Pairwise (fun p q => p.1 ≠ q.1) → es.any (fun p => p.1.sameKey kl) = true → (es.filter (ChangeMaps.notKey kl)).length + 1 = es.length
  | [], _, h => by simp at h
  | p :: es, hp, h => by
    rw [List.pairwise_cons] at hp
    by_cases hk : p.1.sameKey kl = true
    · have e1 := WideAt.sameKey_eq hk
      have e : es.filter (ChangeMaps.notKey kl) = es := List.filter_eq_self.2 fun q hq => by
        unfold ChangeMaps.notKey
        rw [sameKey_ne (fun e2 => hp.1 q hq (e1.trans e2.symm))]
        rfl
      have e3 : ChangeMaps.notKey kl p = false := by unfold ChangeMaps.notKey; rw [hk]; rfl
      rw [List.filter_cons_of_neg (by rw [e3]; simp), e]
      rfl
    · have hk' : p.1.sameKey kl = false := by simpa using hk
      have e3 : ChangeMaps.notKey kl p = true := by unfold ChangeMaps.notKey; rw [hk']; rfl
      rw [List.filter_cons_of_pos e3, List.length_cons, List.length_cons, filter_size kl es hp.2 (by simpa [hk'] using h)]
theorem size_del {D : DataW H} {kl : Lit} (h : Tidy D) : Maps.size (D.del kl) + (if Maps.has D kl then 1 else 0) = Maps.size D := by
  obtain ⟨es, rfl, hp⟩ := h
  show (es.filter (ChangeMaps.notKey kl)).length + (if es.any (fun p => p.1.sameKey kl) then 1 else 0) = es.length
  by_cases hh : es.any (fun p => p.1.sameKey kl) = true
  · rw [if_pos hh]
    exact filter_size kl es hp hh
  · rw [if_neg hh]
    have hh2 : es.any (fun p => p.1.sameKey kl) = false := Bool.eq_false_iff.2 hh
    have e : es.filter (ChangeMaps.notKey kl) = es := List.filter_eq_self.2 fun p hp => by
      have := List.any_eq_false.1 hh2 p hp
      unfold ChangeMaps.notKey
      simpa using this
    rw [e]
    rfl
theorem size_put_le {D : DataW H} {kl : Lit} {d : DataW H} (h : Tidy D) (hn : Maps.has D kl = true) : Maps.size (D.put kl d) = Maps.size D := by
  have h2 := size_del (kl := kl) h
  obtain ⟨es, rfl, hp⟩ := h
  rw [if_pos hn] at h2
  show (DataW.insert (kl, d) (es.filter (ChangeMaps.notKey kl))).length = _
  rw [length_insert]
  exact h2
end
/-- Fewer may be said of a map than it holds. -/
theorem World.ownsMap.exact {H : Type} {w : World} {K : TypeId} {R : Value → Option (DataW H × List MemPlace)} {b n : Nat} {D : DataW H} (h : w.ownsMap Tryz.prog K R b n D) : w.ownsMap Tryz.prog K R b (Maps.size D) D := by
  obtain ⟨es, clock, hb, F, _, rfl⟩ := h
  exact ⟨es, clock, hb, F, by rw [size_eq, length_sorted]; simp, rfl⟩
section
variable {w w' : World} {K : TypeId} {b m : Nat} {F : Value → Option Value}
theorem MapV.made (w : World) (K : TypeId) : MapV (w.alloc (.map #[] 0)) K w.heap.size 0 (fun _ => none) :=
  ⟨.map [], World.ownsMap_made _ _ _ _, rfl, fun _ _ _ => ⟨rfl, fun _ => rfl⟩⟩
theorem MapV.lt (h : MapV w K b m F) : b < w.heap.size := by obtain ⟨D, h, _⟩ := h; exact h.lt
theorem MapV.kept (h : MapV w K b m F) {row : Option Nat} (hg : w.grownBy w' row) (hne : some b ≠ row) : MapV w' K b m F := by obtain ⟨D, h, h'⟩ := h; exact ⟨D, h.kept hg hne, h'⟩
theorem MapV.alloc (h : MapV w K b m F) (o : Obj) : MapV (w.alloc o) K b m F := by obtain ⟨D, h, h'⟩ := h; exact ⟨D, h.alloc o, h'⟩
theorem MapV.setCell (h : MapV w K b m F) {a : Addr} (ha : b ≠ a.block) (u : Value) : MapV (w.setCell a u) K b m F := by obtain ⟨D, h, h'⟩ := h; exact ⟨D, h.setCell ha u, h'⟩
theorem MapV.of_block (h : MapV w K b m F) (e : w'.heap[b]? = w.heap[b]?) : MapV w' K b m F := by
  obtain ⟨D, ⟨es, clock, hb, r⟩, h'⟩ := h
  exact ⟨D, ⟨es, clock, e.trans hb, r⟩, h'⟩
theorem MapV.below (h : MapV w K b m F) {B : Nat} (hb : Below B w w') (hB : b < B) : MapV w' K b m F := h.of_block (hb.block b hB)
theorem MapV.drew (h : MapV w K b m F) : MapV w.drew K b m F := h
theorem MapV.drewN (h : MapV w K b m F) (n : Nat) : MapV (w.drewN n) K b m F := h
end
/-- 'm[k]', as a fact of the world. -/
theorem MapV.look_run {w : World} {t K E : TypeId} {b m : Nat} {F : Value → Option Value} (h : MapV w K b m F) (hK : Keyed Tryz.prog K) (ht : Tryz.prog.underlying t = some (.map K E)) (z : Value) (hz : ∀ w, (zeroValue E).run Tryz.prog w = .ok z w) {key : Value} {kl : Lit} (hkey : keyOf Tryz.prog K key = some kl) :
    (Instr.lookup t (.map (some b)) key false).run Tryz.prog w = .ok ((F key).getD z) w := by
  obtain ⟨D, h, _, h'⟩ := h
  obtain ⟨v, ps, hrun, hv⟩ := h.lookup hK ht (hz w) (zd := .held z) (zp := []) rfl hkey
  rw [(h' key kl hkey).2 z] at hv
  have e3 : v = (F key).getD z := DataW.held.inj (Prod.mk.inj (Option.some.inj hv)).1
  rw [e3] at hrun
  exact hrun
section
variable {w : World} {ops : Array Oper} {rest : List Oper} {o : Oper} {a : Act} {Q : Exit → Act → World → Prop}
/-- 'm[k] = v'. -/
theorem wpList_store_V (hg : o.guard = none) (mo x v : Operand) (t K E : TypeId) (hop : o.op = Op.mapUpdate t mo x v) (hK : Keyed Tryz.prog K) (ht : Tryz.prog.underlying t = some (.map K E)) (b m : Nat) (F : Value → Option Value)
    (hm : a.eval mo = .map (some b)) (h : MapV w K b m F) (hn : m < 9223372036854775807) (key u : Value) (kl : Lit) (hx : a.eval x = key) (hv : a.eval v = u) (hkey : keyOf Tryz.prog K key = some kl)
    (hk : ∀ w', MapV w' K b (if (F key).isSome then m else m + 1) (setM F key (some u)) → w.grownBy w' (some b) → wpList Tryz.prog ops Q rest (a.put o.dst undef) w') : wpList Tryz.prog ops Q (o :: rest) a w := by
  obtain ⟨D, h, hs, h'⟩ := h
  refine wpList_mapUpdate_own w hg mo x v t hop K E hK ht anyE b m D hm h (by unfold maxLen; omega) key u kl hx hv hkey (.held u) [] rfl ?_
  intro w' h1 h2
  have e0 := (h' key kl hkey).1
  have hsz : Maps.size (D.put kl (.held u)) = if (F key).isSome then m else m + 1 := by
    by_cases hh : Maps.has D kl = true
    · rw [size_put_le (h.tidy hK) hh, hs, ← e0, hh]; rfl
    · have hh' : Maps.has D kl = false := by simpa using hh
      rw [size_put h.isMap hh', hs, ← e0, hh']; rfl
  refine hk w' ⟨_, by rw [← hsz]; exact World.ownsMap.exact h1, hsz, fun key' kl' hkey' => ?_⟩ h2
  by_cases e : key' = key
  · subst e
    obtain rfl : kl = kl' := Option.some.inj (hkey.symm.trans hkey')
    rw [setM_same, has_put_same h.isMap (hK.key hkey)]
    exact ⟨rfl, fun z => by rw [atKey_put_same h.isMap (hK.key hkey)]; rfl⟩
  · have e' : kl' ≠ kl := fun q => e (hK.inj hkey' (q ▸ hkey))
    rw [setM_other _ e, has_put_other e']
    exact ⟨(h' key' kl' hkey').1, fun z => by rw [atKey_put_other e']; exact (h' key' kl' hkey').2 z⟩
/-- 'delete(m, k)'. -/
theorem wpList_delete_V (hg : o.guard = none) (mo x : Operand) (t K E : TypeId) (hop : o.op = Op.call { callee := Callee.builtin Builtin.delete, args := #[mo, x], argTypes := #[t, K] }) (hK : Keyed Tryz.prog K) (ht : Tryz.prog.underlying t = some (.map K E)) (b m : Nat) (F : Value → Option Value)
    (hm : a.eval mo = .map (some b)) (h : MapV w K b m F) (key : Value) (kl : Lit) (hx : a.eval x = key) (hkey : keyOf Tryz.prog K key = some kl)
    (hk : ∀ w', MapV w' K b (if (F key).isSome then m - 1 else m) (setM F key none) → w.grownBy w' (some b) → wpList Tryz.prog ops Q rest (a.put o.dst (.tuple #[])) w') : wpList Tryz.prog ops Q (o :: rest) a w := by
  obtain ⟨D, h, hs, h'⟩ := h
  refine wpList_delete_own w hg mo x t K hop E hK ht _ b m D hm h key kl hx hkey ?_
  intro w' h1 h2
  have e0 := (h' key kl hkey).1
  have hsz : Maps.size (D.del kl) = if (F key).isSome then m - 1 else m := by
    have := size_del (kl := kl) (h.tidy hK)
    rw [hs, e0] at this
    split at this <;> rename_i hc <;> simp only [hc, if_true, if_false, Bool.false_eq_true] <;> omega
  refine hk w' ⟨_, by rw [← hsz]; exact World.ownsMap.exact h1, hsz, fun key' kl' hkey' => ?_⟩ h2.grown
  by_cases e : key' = key
  · subst e
    obtain rfl : kl = kl' := Option.some.inj (hkey.symm.trans hkey')
    rw [setM_same, has_del_same]
    exact ⟨rfl, fun z => by rw [atKey_del_same]; rfl⟩
  · have e' : kl' ≠ kl := fun q => e (hK.inj hkey' (q ▸ hkey))
    rw [setM_other _ e, has_del_other e']
    exact ⟨(h' key' kl' hkey').1, fun z => by rw [atKey_del_other e']; exact (h' key' kl' hkey').2 z⟩
end
end Go.Proofs.YtendnkklbeiegaaGreatDoor
