/-
  Words for memory: a slice of bytes that reads as a list.
-/
import Derived.WalkKit
import Derived.Deep.Draws
import Derived.Laws.OwnMore
import Derived.Maps.AppendAt
import Derived.Deep.AppendLies
import Derived.OwnWalk
import Derived.Laws.BytesArg
namespace Go.Proofs.YtendnkklbeiegaaGreatDoor
open Go.RowKit

/-- A slice at A reads as the cells vs (where there are none A may be anything). -/
def RV (w : World) (A : Option Addr) (vs : List Value) : Prop :=
  vs ≠ [] → ∃ b off, A = some ⟨b, off, none⟩ ∧ b < w.heap.size ∧ ∀ j v, vs[j]? = some v → w.cell? ⟨b, off + j, none⟩ = some v
section
variable {w w' : World} {A : Option Addr} {vs : List Value}
theorem RV.at_ (h : RV w A vs) {k : Nat} (hk : k < vs.length) : ∃ b off, A = some ⟨b, off, none⟩ ∧ b < w.heap.size ∧ w.cell? ⟨b, off + k, none⟩ = some vs[k] := by
  obtain ⟨b, off, rfl, hb, hc⟩ := h (by rintro rfl; simp at hk)
  exact ⟨b, off, rfl, hb, hc k _ (List.getElem?_eq_getElem hk)⟩
theorem RV.keep (h : RV w A vs) (hs : w.heap.size ≤ w'.heap.size) (hk : ∀ p : Addr, p.block < w.heap.size → w'.cell? p = w.cell? p) : RV w' A vs := by
  intro hl
  obtain ⟨b, off, e, hb, hc⟩ := h hl
  exact ⟨b, off, e, Nat.lt_of_lt_of_le hb hs, fun j c hj => (hk _ hb).trans (hc j c hj)⟩
theorem RV.below (h : RV w A vs) (hb : Below w.heap.size w w') : RV w' A vs := h.keep hb.size fun _ hp => hb.cell hp
theorem RV.nil : RV w A [] := fun h => absurd rfl h
theorem RV.alloc (h : RV w A vs) (o : Obj) : RV (w.alloc o) A vs := h.below ((Below.refl _ _).alloc (Nat.le_refl _) o)
theorem RV.drew (h : RV w A vs) : RV w.drew A vs := h
theorem RV.drewN (h : RV w A vs) (n : Nat) : RV (w.drewN n) A vs := h
theorem RV.new (w : World) (vs : List Value) (t : TypeId) (f : Nat × Nat) : RV (w.alloc (.cells vs.toArray t f)) (some ⟨w.heap.size, 0, none⟩) vs := by
  intro _
  refine ⟨_, _, rfl, by simp, fun j c hj => ?_⟩
  rw [World.cell?_alloc_mark]
  simpa using hj
end
/-- A byte's cell; a number's. -/
def byteV (c : UInt8) : Value := .int .u8 (c.toNat : Int)
def intV (n : Int) : Value := .int .i64 n
/-- Bytes' cells; numbers'. -/
def cB (l : List UInt8) : List Value := l.map byteV
def cI (l : List Int) : List Value := l.map intV
theorem cB_len (l : List UInt8) : (cB l).length = l.length := by simp [cB]
theorem cI_len (l : List Int) : (cI l).length = l.length := by simp [cI]
theorem cB_get {l : List UInt8} {k : Nat} (h : k < (cB l).length) : (cB l)[k] = .int .u8 ((l[k]'(by rwa [cB_len] at h)).toNat : Int) := by simp [cB, byteV]
theorem cI_get {l : List Int} {k : Nat} (h : k < (cI l).length) : (cI l)[k] = .int .i64 (l[k]'(by rwa [cI_len] at h)) := by simp [cI, intV]
theorem cB_append (a b : List UInt8) : cB (a ++ b) = cB a ++ cB b := by simp [cB]
theorem cI_append (a b : List Int) : cI (a ++ b) = cI a ++ cI b := by simp [cI]
theorem cB_one (l : List UInt8) : ∀ u ∈ cB l, u.oneCell' = true := by
  intro u hu; simp only [cB, List.mem_map] at hu; obtain ⟨c, _, rfl⟩ := hu; rfl
theorem one_of_int (k : IntKind) (n : Int) : ∀ u ∈ [Value.int k n], u.oneCell' = true := by
  intro u hu; simp only [List.mem_singleton] at hu; subst hu; rfl
/-- A slice at A reads as the bytes l; the numbers l. -/
def RB (w : World) (A : Option Addr) (l : List UInt8) : Prop := RV w A (cB l)
def RI (w : World) (A : Option Addr) (l : List Int) : Prop := RV w A (cI l)
section
variable {w w' : World} {A : Option Addr} {l : List UInt8}
theorem RB.at_ (h : RB w A l) {k : Nat} (hk : k < l.length) :
    ∃ b off, A = some ⟨b, off, none⟩ ∧ b < w.heap.size ∧ w.cell? ⟨b, off + k, none⟩ = some (.int .u8 (l[k].toNat : Int)) := by
  obtain ⟨b, off, e, hb, hc⟩ := RV.at_ h (k := k) (by rwa [cB_len])
  exact ⟨b, off, e, hb, by rw [hc, cB_get]⟩
theorem RB.below (h : RB w A l) (hb : Below w.heap.size w w') : RB w' A l := RV.below h hb
theorem RB.nil : RB w A [] := RV.nil
theorem RB.alloc (h : RB w A l) (o : Obj) : RB (w.alloc o) A l := RV.alloc h o
theorem RB.drew (h : RB w A l) : RB w.drew A l := h
theorem RB.drewN (h : RB w A l) (n : Nat) : RB (w.drewN n) A l := h
theorem RB.of_blk {g : Nat} {t : TypeId} {cs : Array Value} (h : w.heap[g]? = some (.cells cs t (0, 0))) (hc : cs.toList = cB l) : RB w (some ⟨g, 0, none⟩) l := by
  intro _
  refine ⟨_, _, rfl, lt_of_block h, fun j c hj => ?_⟩
  rw [cell_of_row w g _ cs t (0, 0) h, ← Array.getElem?_toList, hc, Nat.zero_add]
  exact hj
end
theorem RI.at_ {w : World} {A : Option Addr} {l : List Int} (h : RI w A l) {k : Nat} (hk : k < l.length) :
    ∃ b off, A = some ⟨b, off, none⟩ ∧ b < w.heap.size ∧ w.cell? ⟨b, off + k, none⟩ = some (.int .i64 l[k]) := by
  obtain ⟨b, off, e, hb, hc⟩ := RV.at_ h (k := k) (by rwa [cI_len])
  exact ⟨b, off, e, hb, by rw [hc, cI_get]⟩
theorem RI.below {w w' : World} {A : Option Addr} {l : List Int} (h : RI w A l) (hb : Below w.heap.size w w') : RI w' A l := RV.below h hb
/- ### A block that is known whole -/
def Blk (w : World) (g : Nat) (t : TypeId) (cs : Array Value) : Prop := w.heap[g]? = some (.cells cs t (0, 0))
section
variable {w w' : World} {g : Nat} {t : TypeId} {cs : Array Value}
theorem Blk.lt (h : Blk w g t cs) : g < w.heap.size := lt_of_block h
theorem Blk.cell (h : Blk w g t cs) (i : Nat) : w.cell? ⟨g, i, none⟩ = cs[i]? := cell_of_row w g i cs t (0, 0) h
theorem Blk.at_ (h : Blk w g t cs) {i : Nat} {v : Value} (hv : cs[i]? = some v) : w.cell? ⟨g, i, none⟩ = some v := (h.cell i).trans hv
theorem Blk.frozen (h : Blk w g t cs) (i : Nat) : w.frozen? ⟨g, i, none⟩ = false := frozen_of_row w g i cs t h
theorem Blk.new (w : World) (t : TypeId) (cs : Array Value) : Blk (w.alloc (.cells cs t)) w.heap.size t cs := heap_alloc_new w _
theorem Blk.alloc (h : Blk w g t cs) (o : Obj) : Blk (w.alloc o) g t cs := (Below.heap_alloc w o g h.lt).trans h
theorem Blk.drew (h : Blk w g t cs) : Blk w.drew g t cs := h
theorem Blk.drewN (h : Blk w g t cs) (n : Nat) : Blk (w.drewN n) g t cs := h
theorem Blk.set_ (h : Blk w g t cs) (i : Nat) (u : Value) : Blk (w.setCell ⟨g, i, none⟩ u) g t (cs.setIfInBounds i u) := heap_setCell_same w g i cs t u h
theorem Blk.far (h : Blk w g t cs) {p : Addr} (hp : g ≠ p.block) (u : Value) : Blk (w.setCell p u) g t cs := (heap_setCell_other w p g u hp).trans h
theorem Blk.below {B : Nat} (h : Blk w g t cs) (hb : Below B w w') (hg : g < B) : Blk w' g t cs := (hb.block g hg).trans h
end
/- ### A row of the call's own -/
theorem add_zero_off (g j : Nat) : (⟨g, 0, none⟩ : Addr).add j = ⟨g, j, none⟩ := by unfold Addr.add; split <;> simp_all
section
variable {w : World} {base : Nat} {e : TypeId} {size n : Nat} {v : Value} {xs : List Value}
theorem own_form (h : w.ownsRow base e size v n xs) : ∃ A c, v = .slice A n c ∧ n ≤ c ∧ c ≤ maxLen := by
  rcases h.2 with ⟨rfl, rfl⟩ | ⟨g, cap, cur, rfl, _, _, hn, hm, _⟩
  · exact ⟨none, 0, rfl, Nat.le_refl _, Nat.zero_le _⟩
  · exact ⟨_, _, rfl, hn, hm⟩
theorem RV.of_own {A : Option Addr} {c : Nat} (h : w.ownsRow base e 1 (.slice A n c) n xs) : RV w A xs := by
  intro hne
  have hn : 0 < n := by have := h.1; rcases xs with _ | ⟨a, xs⟩; exact absurd rfl hne; simp at this; omega
  rcases h.2 with ⟨hv, h0⟩ | ⟨g, cap, cur, hv, _, hh, hnc, _⟩
  · omega
  · injection hv with hA
    subst hA
    refine ⟨g, 0, rfl, lt_of_block hh, fun j u hu => ?_⟩
    have := h.cells (g := g) rfl j u hu
    rw [add_zero_off] at this
    rwa [Nat.zero_add]
end
end Go.Proofs.YtendnkklbeiegaaGreatDoor
namespace Go.Proofs.YtendnkklbeiegaaGreatDoor
open Go.RowKit
theorem wpList_abs {P : Program} {ops : Array Oper} {Q : Exit → Act → World → Prop} {l : List Oper} {a : Act} {w : World} (S : World → Prop) (hS : S w) (h : ∀ w', S w' → wpList P ops Q l a w') : wpList P ops Q l a w := h w hS
end Go.Proofs.YtendnkklbeiegaaGreatDoor
namespace Go.Proofs.YtendnkklbeiegaaGreatDoor
open Go.RowKit

/- ### append onto a row of the call's own, the source whatever can be read -/
/-- What the program's table says of a slice type and its elements. -/
structure El (P : Program) (t e : TypeId) (z : Value) (size bytes : Nat) : Prop where
  info : ∃ i, P.info? e = some i ∧ i.zero = some z ∧ i.size = size ∧ i.bytes = bytes
  under : P.underlying t = some (.slice e)
  cells : z.cells.size = size
  pos : 0 < size
section
variable {P : Program} {w : World} {base : Nat} {t ty e : TypeId} {z : Value} {size bytes n m c : Nat} {v : Value} {xs news : List Value} {A : Option Addr}
theorem run_append_rv (E : El P t e z size bytes) (hown : w.ownsRow base e size v n xs) (hl : news.length = m * size) (hr : RV w A news) (h1 : ∀ u ∈ news, u.oneCell' = true)
    (h63 : n + m ≤ maxLen) (hbytes : (n + m) * bytes ≤ 140737488355328) (hbase : base ≤ w.heap.size) :
    ∃ v' w', (Builtin.append_ #[t, t] ty #[v, .slice A m c]).run P w = .ok v' w' ∧ w'.ownsRow base e size v' (n + m) (xs ++ news) ∧ w.grownBy w' v.ownBlock ∧
      (v'.ownBlock = v.ownBlock ∨ v'.ownBlock = some w.heap.size) := by
  obtain ⟨i, hi, hz, hs, hb⟩ := E.info
  have ht := E.under
  by_cases hnil : A = none
  · subst hnil
    have hnews : news = [] := by
      rcases Classical.em (news = []) with h | h
      · exact h
      · obtain ⟨b, off, h', _⟩ := hr h
        cases h'
    subst hnews
    have hm : m = 0 := by
      have := E.pos
      have h0 : m * size = 0 := by simpa using hl.symm
      rcases Nat.mul_eq_zero.1 h0 with h | h
      · exact h
      · omega
    subst hm
    refine ⟨v, w, ?_, by simpa using hown, World.grownBy.refl w _, .inl rfl⟩
    rcases hown.2 with ⟨rfl, rfl⟩ | ⟨g, cap, cur, rfl, _, _, hnc, _⟩
    · simp [Builtin.append_, run_underlying ht, sizeOf, typeInfo, hi, Builtin.lenOf, Builtin.firstCells]
    · simp [Builtin.append_, run_underlying ht, sizeOf, typeInfo, hi, Builtin.lenOf, Builtin.firstCells, hnc, storeCells]
  · obtain ⟨ad, rfl⟩ : ∃ ad, A = some ad := by cases A with
      | none => exact absurd rfl hnil
      | some ad => exact ⟨ad, rfl⟩
    have hcells : ∀ j u, news[j]? = some u → w.cell? (ad.add j) = some u := by
      intro j u hu
      obtain ⟨b, off, h, _, hc⟩ := hr (by rintro rfl; simp at hu)
      injection h with h
      subst h
      have hadd : (⟨b, off, none⟩ : Addr).add j = ⟨b, off + j, none⟩ := by unfold Addr.add; split <;> simp_all
      rw [hadd]
      exact hc j u hu
    obtain ⟨v', w', hrun, h2, h3, _, h5⟩ := run_append_own_at (P := P) w base t ty e i z size bytes ht hi hz hs hb E.cells E.pos v n xs hown ad m c news hl hcells h1 h63 hbytes hbase
    exact ⟨v', w', hrun, h2, h3, h5⟩
theorem wpList_append_rv {ops : Array Oper} {rest : List Oper} {o : Oper} {a : Act} {Q : Exit → Act → World → Prop} (E : El P t e z size bytes) (hw : Region.wanted o (yielded ops a.tmps) = true) (s x : Operand)
    (ho : o.op = .call { callee := .builtin .append, args := #[s, x], argTypes := #[t, t] })
    (base : Nat) (v : Value) (n : Nat) (xs : List Value) (hs : a.eval s = v) (hown : w.ownsRow base e size v n xs)
    (A : Option Addr) (m c : Nat) (news : List Value) (hx : a.eval x = .slice A m c) (hl : news.length = m * size) (hr : RV w A news) (h1 : ∀ u ∈ news, u.oneCell' = true)
    (h63 : n + m ≤ maxLen) (hbytes : (n + m) * bytes ≤ 140737488355328) (hbase : base ≤ w.heap.size)
    (h : ∀ v' w', w'.ownsRow base e size v' (n + m) (xs ++ news) → w.grownBy w' v.ownBlock → (v'.ownBlock = v.ownBlock ∨ v'.ownBlock = some w.heap.size) → wpList P ops Q rest (a.put o.dst v') w') : wpList P ops Q (o :: rest) a w :=
  BigFrame.wpList_want hw fun K hK => by
    obtain ⟨v', w', hrun, h2, h3, h4⟩ := run_append_rv (P := P) (w := w) (ty := o.type) (c := c) E hown hl hr h1 h63 hbytes hbase
    unfold Oper.wp execOp
    simp only [ho, resolve, invoke, builtin, Sem.run_bind, Sem.run_pure, Result.andThen_ok, List.map_toArray, List.map_cons, List.map_nil, hs, hx, hrun]
    exact hK _ _ (h v' w' h2 h3 h4)
end
theorem own_below {w w' : World} {base B : Nat} {e : TypeId} {size n : Nat} {v : Value} {xs : List Value} (h : w.ownsRow base e size v n xs) (hb : Below B w w') (hv : ∀ k, v.ownBlock = some k → k < B) : w'.ownsRow base e size v n xs := by
  refine ⟨h.1, ?_⟩
  rcases h.2 with h0 | ⟨g, cap, cur, rfl, h1, h2, h3, h4, h5, h6⟩
  · exact .inl h0
  · exact .inr ⟨g, cap, cur, rfl, h1, (hb.block g (hv g rfl)).trans h2, h3, h4, h5, h6⟩
end Go.Proofs.YtendnkklbeiegaaGreatDoor
namespace Go.Proofs.YtendnkklbeiegaaGreatDoor
open Go.RowKit

/-- The string of bytes. -/
def bstr (l : List UInt8) : ByteArray := ⟨l.toArray⟩
theorem run_str {P : Program} (w : World) (src e dst : TypeId) (hs : P.underlying src = some (.slice e)) (he : P.underlying e = some (.int .u8)) (hd : P.underlying dst = some .string)
    (A : Option Addr) (l : List UInt8) (n cap : Nat) (hR : RB w A l) (hn : l.length = n) : (convert src dst (.slice A n cap)).run P w = .ok (.string (bstr l)) w := by
  subst hn
  cases hl : l with
  | nil =>
    cases A with
    | none => exact run_convert_bytes_nil w src e hs he _ _ dst hd
    | some a =>
      rw [run_convert_bytes_string w src dst e _ _ cap hs he hd, run_bytesToString w a _ cap [] (by
        have := run_loadCells_list (P := P) w a [] (fun j v hj => by simp at hj)
        simpa using this)]
      rfl
  | cons c t =>
    rw [← hl]
    obtain ⟨b, off, rfl, _, hc⟩ := hR (by simp [cB, hl])
    have := run_convert_bytes_arg (P := P) w src e hs he b off l.length cap (l.map fun c => (c.toNat : Int)) (by simp) (fun i hi => by
      rw [hc i (.int .u8 (l[i].toNat : Int)) (by simp [cB, byteV, hi])]
      simp [List.getD, hi]) dst hd
    rw [this]
    congr 2
    unfold strOfNums bstr
    congr 2
    rw [List.map_map]
    exact (List.map_congr_left (fun c _ => by simp)).trans (List.map_id l)
end Go.Proofs.YtendnkklbeiegaaGreatDoor
