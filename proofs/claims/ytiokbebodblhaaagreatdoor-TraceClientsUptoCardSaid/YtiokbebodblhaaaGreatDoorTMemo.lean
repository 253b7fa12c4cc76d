/-
  Words for memory: a slice of bytes that reads as a list.
-/
import Derived.WalkKit
import Derived.Deep.Draws
import Derived.Laws.OwnMore
import Derived.Maps.AppendAt
import Derived.Deep.AppendLies
import Derived.OwnWalk
import Derived.Laws.MakeOwn
import Derived.Laws.CopyOwn
import Derived.Laws.BytesArg
import Derived.Lib.Hide
import Derived.Test.YtiokbebodblhaaaGreatDoorTPlain
import Derived.Maps.RangeWalk
import Derived.Shelf.Strings.Builder1
import Derived.Shelf.Strings.OnBuilder
import Derived.Shelf.Small.Strs
import Derived.Shelf.Strings.BuilderK
import Derived.Shelf.LaysM
import Derived.Shelf.Strconv.Itoa4
import Derived.Shelf.LaysC
import Derived.Shelf.Strconv.ParseIntPublic10
import Derived.Shelf.Strconv.ErrVarParseInt
import Derived.Shelf.Strings.Cut
import Derived.Shelf.Strings.Shaped
import Derived.Shelf.Strings.Split
import Derived.Test.YtiokbebodblhaaaGreatDoorProg
import Derived.Deep.QuietTactic
import Derived.BigQuiet
import Derived.Lib.ItoaLen
import Derived.Lib.AtoiErrMem
import Derived.Lib.Join
namespace Go.Proofs.YtiokbebodblhaaaGreatDoor
open Go.RowKit

/-- A slice at A reads as the cells vs (where there are none A may be anything). -/
def RV (w : World) (A : Option Addr) (vs : List Value) : Prop :=
  vs ≠ [] → ∃ b off, A = some ⟨b, off, none⟩ ∧ b < w.heap.size ∧ ∀ j v, vs[j]? = some v → w.cell? ⟨b, off + j, none⟩ = some v
section
variable {w w' : World} {A : Option Addr} {vs : List Value}
theorem RV.at_ (h : RV w A vs) {k : Nat} (hk : k < vs.length) : ∃ b off, A = some ⟨b, off, none⟩ ∧ b < w.heap.size ∧ w.cell? ⟨b, off + k, none⟩ = some vs[k] := by
  obtain ⟨b, off, rfl, hb, hc⟩ := h (by rintro rfl; simp at hk)
  exact ⟨b, off, rfl, hb, hc k _ (List.getElem?_eq_getElem hk)⟩
theorem RV.keep (h : RV w A vs) (hs : w.heap.size ≤ w'.heap.size) (hk : ∀ p : Addr, p.block < w.heap.size → w'.cell? p = w.cell? p) : RV w' A vs := by
  intro hl
  obtain ⟨b, off, e, hb, hc⟩ := h hl
  exact ⟨b, off, e, Nat.lt_of_lt_of_le hb hs, fun j c hj => (hk _ hb).trans (hc j c hj)⟩
theorem RV.below (h : RV w A vs) (hb : Below w.heap.size w w') : RV w' A vs := h.keep hb.size fun _ hp => hb.cell hp
theorem RV.nil : RV w A [] := fun h => absurd rfl h
theorem RV.alloc (h : RV w A vs) (o : Obj) : RV (w.alloc o) A vs := h.below ((Below.refl _ _).alloc (Nat.le_refl _) o)
theorem RV.drew (h : RV w A vs) : RV w.drew A vs := h
theorem RV.drewN (h : RV w A vs) (n : Nat) : RV (w.drewN n) A vs := h
theorem RV.new (w : World) (vs : List Value) (t : TypeId) (f : Nat × Nat) : RV (w.alloc (.cells vs.toArray t f)) (some ⟨w.heap.size, 0, none⟩) vs := by
  intro _
  refine ⟨_, _, rfl, by simp, fun j c hj => ?_⟩
  rw [World.cell?_alloc_mark]
  simpa using hj
end
/-- A byte's cell; a number's. -/
def byteV (c : UInt8) : Value := .int .u8 (c.toNat : Int)
def intV (n : Int) : Value := .int .i64 n
/-- Bytes' cells; numbers'. -/
def cB (l : List UInt8) : List Value := l.map byteV
def cI (l : List Int) : List Value := l.map intV
theorem cB_len (l : List UInt8) : (cB l).length = l.length := by simp [cB]
theorem cI_len (l : List Int) : (cI l).length = l.length := by simp [cI]
theorem cB_get {l : List UInt8} {k : Nat} (h : k < (cB l).length) : (cB l)[k] = .int .u8 ((l[k]'(by rwa [cB_len] at h)).toNat : Int) := by simp [cB, byteV]
theorem cI_get {l : List Int} {k : Nat} (h : k < (cI l).length) : (cI l)[k] = .int .i64 (l[k]'(by rwa [cI_len] at h)) := by simp [cI, intV]
/-- A slice at A reads as the bytes l; the numbers l. -/
def RB (w : World) (A : Option Addr) (l : List UInt8) : Prop := RV w A (cB l)
def RI (w : World) (A : Option Addr) (l : List Int) : Prop := RV w A (cI l)
section
variable {w w' : World} {A : Option Addr} {l : List UInt8}
theorem RB.at_ (h : RB w A l) {k : Nat} (hk : k < l.length) :
    ∃ b off, A = some ⟨b, off, none⟩ ∧ b < w.heap.size ∧ w.cell? ⟨b, off + k, none⟩ = some (.int .u8 (l[k].toNat : Int)) := by
  obtain ⟨b, off, e, hb, hc⟩ := RV.at_ h (k := k) (by rwa [cB_len])
  exact ⟨b, off, e, hb, by rw [hc, cB_get]⟩
theorem RB.below (h : RB w A l) (hb : Below w.heap.size w w') : RB w' A l := RV.below h hb
theorem RB.nil : RB w A [] := RV.nil
theorem RB.alloc (h : RB w A l) (o : Obj) : RB (w.alloc o) A l := RV.alloc h o
theorem RB.drew (h : RB w A l) : RB w.drew A l := h
theorem RB.drewN (h : RB w A l) (n : Nat) : RB (w.drewN n) A l := h
end
theorem RI.at_ {w : World} {A : Option Addr} {l : List Int} (h : RI w A l) {k : Nat} (hk : k < l.length) :
    ∃ b off, A = some ⟨b, off, none⟩ ∧ b < w.heap.size ∧ w.cell? ⟨b, off + k, none⟩ = some (.int .i64 l[k]) := by
  obtain ⟨b, off, e, hb, hc⟩ := RV.at_ h (k := k) (by rwa [cI_len])
  exact ⟨b, off, e, hb, by rw [hc, cI_get]⟩
theorem RI.below {w w' : World} {A : Option Addr} {l : List Int} (h : RI w A l) (hb : Below w.heap.size w w') : RI w' A l := RV.below h hb
/- ### A block that is known whole -/
def Blk (w : World) (g : Nat) (t : TypeId) (cs : Array Value) : Prop := w.heap[g]? = some (.cells cs t (0, 0))
section
variable {w w' : World} {g : Nat} {t : TypeId} {cs : Array Value}
theorem Blk.lt (h : Blk w g t cs) : g < w.heap.size := lt_of_block h
theorem Blk.cell (h : Blk w g t cs) (i : Nat) : w.cell? ⟨g, i, none⟩ = cs[i]? := cell_of_row w g i cs t (0, 0) h
theorem Blk.at_ (h : Blk w g t cs) {i : Nat} {v : Value} (hv : cs[i]? = some v) : w.cell? ⟨g, i, none⟩ = some v := (h.cell i).trans hv
theorem Blk.frozen (h : Blk w g t cs) (i : Nat) : w.frozen? ⟨g, i, none⟩ = false := frozen_of_row w g i cs t h
theorem Blk.new (w : World) (t : TypeId) (cs : Array Value) : Blk (w.alloc (.cells cs t)) w.heap.size t cs := heap_alloc_new w _
theorem Blk.alloc (h : Blk w g t cs) (o : Obj) : Blk (w.alloc o) g t cs := (Below.heap_alloc w o g h.lt).trans h
theorem Blk.drew (h : Blk w g t cs) : Blk w.drew g t cs := h
theorem Blk.drewN (h : Blk w g t cs) (n : Nat) : Blk (w.drewN n) g t cs := h
theorem Blk.set_ (h : Blk w g t cs) (i : Nat) (u : Value) : Blk (w.setCell ⟨g, i, none⟩ u) g t (cs.setIfInBounds i u) := heap_setCell_same w g i cs t u h
theorem Blk.far (h : Blk w g t cs) {p : Addr} (hp : g ≠ p.block) (u : Value) : Blk (w.setCell p u) g t cs := (heap_setCell_other w p g u hp).trans h
theorem Blk.below {B : Nat} (h : Blk w g t cs) (hb : Below B w w') (hg : g < B) : Blk w' g t cs := (hb.block g hg).trans h
theorem Blk.setRow_ (h : Blk w g t cs) (cs' : Array Value) : Blk (w.setRow g cs') g t cs' := setRow_heap w g cs cs' t _ h
end
theorem below_setRow {B : Nat} {a w : World} (h : Below B a w) {g : Nat} (hg : B ≤ g) (cs : Array Value) : Below B a (w.setRow g cs) :=
  ⟨h.os, h.tape, h.output, by simpa using h.size, fun k hk => by
    have : (w.setRow g cs).heap[k]? = w.heap[k]? := by
      simp only [World.setRow, Array.getElem?_modify]
      rw [if_neg (by omega)]
    rw [this]; exact h.block k hk⟩

/- ### A row of the call's own -/
theorem add_zero_off (g j : Nat) : (⟨g, 0, none⟩ : Addr).add j = ⟨g, j, none⟩ := by unfold Addr.add; split <;> simp_all
section
variable {w : World} {base : Nat} {e : TypeId} {size n : Nat} {v : Value} {xs : List Value}
theorem own_form (h : w.ownsRow base e size v n xs) : ∃ A c, v = .slice A n c ∧ n ≤ c ∧ c ≤ maxLen := by
  rcases h.2 with ⟨rfl, rfl⟩ | ⟨g, cap, cur, rfl, _, _, hn, hm, _⟩
  · exact ⟨none, 0, rfl, Nat.le_refl _, Nat.zero_le _⟩
  · exact ⟨_, _, rfl, hn, hm⟩
theorem RV.of_own {A : Option Addr} {c : Nat} (h : w.ownsRow base e 1 (.slice A n c) n xs) : RV w A xs := by
  intro hne
  have hn : 0 < n := by have := h.1; rcases xs with _ | ⟨a, xs⟩; exact absurd rfl hne; simp at this; omega
  rcases h.2 with ⟨hv, h0⟩ | ⟨g, cap, cur, hv, _, hh, hnc, _⟩
  · omega
  · injection hv with hA
    subst hA
    refine ⟨g, 0, rfl, lt_of_block hh, fun j u hu => ?_⟩
    have := h.cells (g := g) rfl j u hu
    rw [add_zero_off] at this
    rwa [Nat.zero_add]
end
end Go.Proofs.YtiokbebodblhaaaGreatDoor
namespace Go.Proofs.YtiokbebodblhaaaGreatDoor
open Go.RowKit

/- ### append onto a row of the call's own, the source whatever can be read -/
/-- What the program's table says of a slice type and its elements. -/
structure El (P : Program) (t e : TypeId) (z : Value) (size bytes : Nat) : Prop where
  info : ∃ i, P.info? e = some i ∧ i.zero = some z ∧ i.size = size ∧ i.bytes = bytes
  under : P.underlying t = some (.slice e)
  cells : z.cells.size = size
  pos : 0 < size
section
variable {P : Program} {w : World} {base : Nat} {t ty e : TypeId} {z : Value} {size bytes n m c : Nat} {v : Value} {xs news : List Value} {A : Option Addr}
theorem run_append_rv (E : El P t e z size bytes) (hown : w.ownsRow base e size v n xs) (hl : news.length = m * size) (hr : RV w A news) (h1 : ∀ u ∈ news, u.oneCell' = true)
    (h63 : n + m ≤ maxLen) (hbytes : (n + m) * bytes ≤ 140737488355328) (hbase : base ≤ w.heap.size) :
    ∃ v' w', (Builtin.append_ #[t, t] ty #[v, .slice A m c]).run P w = .ok v' w' ∧ w'.ownsRow base e size v' (n + m) (xs ++ news) ∧ w.grownBy w' v.ownBlock ∧
      (v'.ownBlock = v.ownBlock ∨ v'.ownBlock = some w.heap.size) := by
  obtain ⟨i, hi, hz, hs, hb⟩ := E.info
  have ht := E.under
  by_cases hnil : A = none
  · subst hnil
    have hnews : news = [] := by
      rcases Classical.em (news = []) with h | h
      · exact h
      · obtain ⟨b, off, h', _⟩ := hr h
        cases h'
    subst hnews
    have hm : m = 0 := by
      have := E.pos
      have h0 : m * size = 0 := by simpa using hl.symm
      rcases Nat.mul_eq_zero.1 h0 with h | h
      · exact h
      · omega
    subst hm
    refine ⟨v, w, ?_, by simpa using hown, World.grownBy.refl w _, .inl rfl⟩
    rcases hown.2 with ⟨rfl, rfl⟩ | ⟨g, cap, cur, rfl, _, _, hnc, _⟩
    · simp [Builtin.append_, run_underlying ht, sizeOf, typeInfo, hi, Builtin.lenOf, Builtin.firstCells]
    · simp [Builtin.append_, run_underlying ht, sizeOf, typeInfo, hi, Builtin.lenOf, Builtin.firstCells, hnc, storeCells]
  · obtain ⟨ad, rfl⟩ : ∃ ad, A = some ad := by cases A with
      | none => exact absurd rfl hnil
      | some ad => exact ⟨ad, rfl⟩
    have hcells : ∀ j u, news[j]? = some u → w.cell? (ad.add j) = some u := by
      intro j u hu
      obtain ⟨b, off, h, _, hc⟩ := hr (by rintro rfl; simp at hu)
      injection h with h
      subst h
      have hadd : (⟨b, off, none⟩ : Addr).add j = ⟨b, off + j, none⟩ := by unfold Addr.add; split <;> simp_all
      rw [hadd]
      exact hc j u hu
    obtain ⟨v', w', hrun, h2, h3, _, h5⟩ := run_append_own_at (P := P) w base t ty e i z size bytes ht hi hz hs hb E.cells E.pos v n xs hown ad m c news hl hcells h1 h63 hbytes hbase
    exact ⟨v', w', hrun, h2, h3, h5⟩
theorem wpList_append_rv {ops : Array Oper} {rest : List Oper} {o : Oper} {a : Act} {Q : Exit → Act → World → Prop} (E : El P t e z size bytes) (hw : Region.wanted o (yielded ops a.tmps) = true) (s x : Operand)
    (ho : o.op = .call { callee := .builtin .append, args := #[s, x], argTypes := #[t, t] })
    (base : Nat) (v : Value) (n : Nat) (xs : List Value) (hs : a.eval s = v) (hown : w.ownsRow base e size v n xs)
    (A : Option Addr) (m c : Nat) (news : List Value) (hx : a.eval x = .slice A m c) (hl : news.length = m * size) (hr : RV w A news) (h1 : ∀ u ∈ news, u.oneCell' = true)
    (h63 : n + m ≤ maxLen) (hbytes : (n + m) * bytes ≤ 140737488355328) (hbase : base ≤ w.heap.size)
    (h : ∀ v' w', w'.ownsRow base e size v' (n + m) (xs ++ news) → w.grownBy w' v.ownBlock → (v'.ownBlock = v.ownBlock ∨ v'.ownBlock = some w.heap.size) → wpList P ops Q rest (a.put o.dst v') w') : wpList P ops Q (o :: rest) a w :=
  BigFrame.wpList_want hw fun K hK => by
    obtain ⟨v', w', hrun, h2, h3, h4⟩ := run_append_rv (P := P) (w := w) (ty := o.type) (c := c) E hown hl hr h1 h63 hbytes hbase
    unfold Oper.wp execOp
    simp only [ho, resolve, invoke, builtin, Sem.run_bind, Sem.run_pure, Result.andThen_ok, List.map_toArray, List.map_cons, List.map_nil, hs, hx, hrun]
    exact hK _ _ (h v' w' h2 h3 h4)
end
/-- An empty row that was just made. -/
theorem own_empty (w : World) {base : Nat} (e : TypeId) (size : Nat) (hb : base ≤ w.heap.size) : (w.alloc (.cells #[] e)).ownsRow base e size (.slice (some ⟨w.heap.size, 0, none⟩) 0 0) 0 [] :=
  ⟨by simp, .inr ⟨w.heap.size, 0, #[], rfl, hb, heap_alloc_new w _, Nat.le_refl _, Nat.zero_le _, by simp, by simp⟩⟩
theorem own_below {w w' : World} {base B : Nat} {e : TypeId} {size n : Nat} {v : Value} {xs : List Value} (h : w.ownsRow base e size v n xs) (hb : Below B w w') (hv : ∀ k, v.ownBlock = some k → k < B) : w'.ownsRow base e size v n xs := by
  refine ⟨h.1, ?_⟩
  rcases h.2 with h0 | ⟨g, cap, cur, rfl, h1, h2, h3, h4, h5, h6⟩
  · exact .inl h0
  · exact .inr ⟨g, cap, cur, rfl, h1, (hb.block g (hv g rfl)).trans h2, h3, h4, h5, h6⟩
end Go.Proofs.YtiokbebodblhaaaGreatDoor
namespace Go.Proofs.YtiokbebodblhaaaGreatDoor
open Go.RowKit

/-- n cells, all z. -/
def rep (n : Nat) (z : Value) : Array Value := (List.replicate n z).toArray
end Go.Proofs.YtiokbebodblhaaaGreatDoor
namespace Go.Proofs.YtiokbebodblhaaaGreatDoor
open Go.RowKit

/-- The string of bytes. -/
def bstr (l : List UInt8) : ByteArray := ⟨l.toArray⟩
theorem run_str {P : Program} (w : World) (src e dst : TypeId) (hs : P.underlying src = some (.slice e)) (he : P.underlying e = some (.int .u8)) (hd : P.underlying dst = some .string)
    (A : Option Addr) (l : List UInt8) (n cap : Nat) (hR : RB w A l) (hn : l.length = n) : (convert src dst (.slice A n cap)).run P w = .ok (.string (bstr l)) w := by
  subst hn
  cases hl : l with
  | nil =>
    cases A with
    | none => exact run_convert_bytes_nil w src e hs he _ _ dst hd
    | some a =>
      rw [run_convert_bytes_string w src dst e _ _ cap hs he hd, run_bytesToString w a _ cap [] (by
        have := run_loadCells_list (P := P) w a [] (fun j v hj => by simp at hj)
        simpa using this)]
      rfl
  | cons c t =>
    rw [← hl]
    obtain ⟨b, off, rfl, _, hc⟩ := hR (by simp [cB, hl])
    have := run_convert_bytes_arg (P := P) w src e hs he b off l.length cap (l.map fun c => (c.toNat : Int)) (by simp) (fun i hi => by
      rw [hc i (.int .u8 (l[i].toNat : Int)) (by simp [cB, byteV, hi])]
      simp [List.getD, hi]) dst hd
    rw [this]
    congr 2
    unfold strOfNums bstr
    congr 2
    rw [List.map_map]
    exact (List.map_congr_left (fun c _ => by simp)).trans (List.map_id l)
end Go.Proofs.YtiokbebodblhaaaGreatDoor
namespace Go.Proofs.YtiokbebodblhaaaGreatDoor
open Go.RowKit

/-- All blocks but those that F names are as they were. -/
structure Kept (F : Nat → Prop) (w w' : World) : Prop where
  os : w'.os = w.os
  tape : w'.tape = w.tape
  output : w'.output = w.output
  size : w.heap.size ≤ w'.heap.size
  block : ∀ k, k < w.heap.size → ¬ F k → w'.heap[k]? = w.heap[k]?
section
variable {F G : Nat → Prop} {a b w w' : World}
theorem Kept.refl (F : Nat → Prop) (w : World) : Kept F w w := ⟨rfl, rfl, rfl, Nat.le_refl _, fun _ _ _ => rfl⟩
theorem Kept.of_below (h : Below w.heap.size w w') (F : Nat → Prop) : Kept F w w' := ⟨h.os, h.tape, h.output, h.size, fun k hk _ => h.block k hk⟩
theorem Kept.mono (h : Kept F w w') (hf : ∀ k, k < w.heap.size → F k → G k) : Kept G w w' := ⟨h.os, h.tape, h.output, h.size, fun k hk hg => h.block k hk fun hF => hg (hf k hk hF)⟩
theorem Kept.trans (h : Kept F a b) (k : Kept F b w) : Kept F a w :=
  ⟨k.os.trans h.os, k.tape.trans h.tape, k.output.trans h.output, Nat.le_trans h.size k.size, fun i hi hF => (k.block i (Nat.lt_of_lt_of_le hi h.size) hF).trans (h.block i hi hF)⟩
theorem Kept.drew (h : Kept F a w) : Kept F a w.drew := ⟨h.os, h.tape, h.output, h.size, h.block⟩
theorem Kept.alloc (h : Kept F a w) (o : Obj) : Kept F a (w.alloc o) :=
  ⟨h.os, h.tape, h.output, Nat.le_trans h.size (by simp), fun i hi hF => (Below.heap_alloc w o i (Nat.lt_of_lt_of_le hi h.size)).trans (h.block i hi hF)⟩
theorem Kept.setCell (h : Kept F a w) {p : Addr} (hp : F p.block ∨ a.heap.size ≤ p.block) (u : Value) : Kept F a (w.setCell p u) :=
  ⟨h.os, h.tape, h.output, by simpa [World.setCell] using h.size, fun i hi hF => (heap_setCell_other w p i u (by
    rintro rfl
    rcases hp with hp | hp
    · exact hF hp
    · omega)).trans (h.block i hi hF)⟩
theorem Kept.grown {row : Option Nat} (h : Kept F a w) (hg : w.grownBy w' row) (hr : ∀ k, row = some k → F k ∨ a.heap.size ≤ k) : Kept F a w' :=
  ⟨hg.os.trans h.os, hg.tape.trans h.tape, hg.output.trans h.output, Nat.le_trans h.size hg.size, fun i hi hF =>
    (hg.block i (Nat.lt_of_lt_of_le hi h.size) (fun e => by
      rcases hr i e.symm with h | h
      · exact hF h
      · omega)).trans (h.block i hi hF)⟩
theorem Kept.below {B : Nat} (h : Kept F w w') (hF : ∀ k, k < w.heap.size → F k → B ≤ k) (hB : B ≤ w.heap.size) : Below B w w' :=
  ⟨h.os, h.tape, h.output, h.size, fun k hk => h.block k (Nat.lt_of_lt_of_le hk hB) fun hf => by have := hF k (Nat.lt_of_lt_of_le hk hB) hf; omega⟩
end
theorem own_frame {w w' : World} {base : Nat} {e : TypeId} {size n : Nat} {v : Value} {xs : List Value} (h : w.ownsRow base e size v n xs) (hb : ∀ k, v.ownBlock = some k → w'.heap[k]? = w.heap[k]?) : w'.ownsRow base e size v n xs := by
  refine ⟨h.1, ?_⟩
  rcases h.2 with h0 | ⟨g, cap, cur, rfl, h1, h2, h3⟩
  · exact .inl h0
  · exact .inr ⟨g, cap, cur, rfl, h1, (hb g rfl).trans h2, h3⟩

/-- What is read lies in none of those blocks. -/
def RVF (w : World) (F : Nat → Prop) (A : Option Addr) (vs : List Value) : Prop :=
  vs ≠ [] → ∃ b off, A = some ⟨b, off, none⟩ ∧ b < w.heap.size ∧ ¬ F b ∧ ∀ j v, vs[j]? = some v → w.cell? ⟨b, off + j, none⟩ = some v
theorem RVF.of_low {w : World} {base : Nat} {F : Nat → Prop} {A : Option Addr} {vs : List Value} (h : RV w A vs) (hb : ∀ b off, A = some ⟨b, off, none⟩ → b < base) (hF : ∀ k, F k → base ≤ k) : RVF w F A vs := by
  intro hne
  obtain ⟨b, off, e, h1, h2⟩ := h hne
  exact ⟨b, off, e, h1, fun hf => by have := hF b hf; have := hb b off e; omega, h2⟩
theorem RVF.nil {w : World} {F : Nat → Prop} {A : Option Addr} : RVF w F A [] := fun h => absurd rfl h
theorem RVF.rv {w : World} {F : Nat → Prop} {A : Option Addr} {vs : List Value} (h : RVF w F A vs) : RV w A vs := fun hne => by
  obtain ⟨b, off, e, h1, _, h2⟩ := h hne
  exact ⟨b, off, e, h1, h2⟩
theorem RVF.kept {w w' : World} {F : Nat → Prop} {A : Option Addr} {vs : List Value} (h : RVF w F A vs) (hk : Kept F w w') : RVF w' F A vs := fun hne => by
  obtain ⟨b, off, e, h1, h2, h3⟩ := h hne
  exact ⟨b, off, e, Nat.lt_of_lt_of_le h1 hk.size, h2, fun j v hj => (World.cell?_of_block (w := w) (hk.block b h1 h2)).trans (h3 j v hj)⟩
theorem RVF.mono {w : World} {F G : Nat → Prop} {A : Option Addr} {vs : List Value} (h : RVF w F A vs) (hG : ∀ k, k < w.heap.size → G k → F k) : RVF w G A vs := fun hne => by
  obtain ⟨b, off, e, h1, h2, h3⟩ := h hne
  exact ⟨b, off, e, h1, fun g => h2 (hG b h1 g), h3⟩
theorem RVF.next {w w' : World} {F G : Nat → Prop} {A : Option Addr} {vs : List Value} (h : RVF w F A vs) (hk : Kept F w w') (hG : ∀ k, k < w.heap.size → G k → F k) : RVF w' G A vs := fun hne => by
  obtain ⟨b, off, e, h1, h2, h3⟩ := h hne
  exact ⟨b, off, e, Nat.lt_of_lt_of_le h1 hk.size, fun g => h2 (hG b h1 g), fun j v hj => (World.cell?_of_block (w := w) (hk.block b h1 h2)).trans (h3 j v hj)⟩
theorem RVF.below {w w' : World} {F : Nat → Prop} {A : Option Addr} {vs : List Value} (h : RVF w F A vs) (hb : Below w.heap.size w w') : RVF w' F A vs := h.kept (Kept.of_below hb F)
/-- The world under a name of its own, with what is known of it. -/
theorem wpList_abs {P : Program} {ops : Array Oper} {Q : Exit → Act → World → Prop} {l : List Oper} {a : Act} {w : World} (S : World → Prop) (hS : S w) (h : ∀ w', S w' → wpList P ops Q l a w') : wpList P ops Q l a w := h w hS
end Go.Proofs.YtiokbebodblhaaaGreatDoor
namespace Go.Proofs.YtiokbebodblhaaaGreatDoor
open Go.RowKit TraceP

/-- A row of things, as a slice says it. -/
structure Row (α : Type) where
  A : Option Addr
  cap : Nat
  l : List α
def Row.val {α : Type} (r : Row α) : Value := .slice r.A r.l.length r.cap
/-- Things' cells. -/
def fl {α : Type} (c : α → List Value) (l : List α) : List Value := l.flatMap c
theorem fl_len {α : Type} {c : α → List Value} {k : Nat} (hc : ∀ a, (c a).length = k) (l : List α) : (fl c l).length = l.length * k := by
  unfold fl
  induction l with
  | nil => simp
  | cons a l ih => rw [List.flatMap_cons, List.length_append, hc, ih, List.length_cons, Nat.succ_mul, Nat.add_comm]
theorem fl_append {α : Type} (c : α → List Value) (a b : List α) : fl c (a ++ b) = fl c a ++ fl c b := by simp [fl]
theorem fl_cons {α : Type} (c : α → List Value) (a : α) (b : List α) : fl c (a :: b) = c a ++ fl c b := by simp [fl]
theorem fl_one {α : Type} (c : α → List Value) (a : α) : fl c [a] = c a := by simp [fl]
theorem fl_get {α : Type} {c : α → List Value} {k : Nat} (hc : ∀ a, (c a).length = k) (l : List α) (i j : Nat) (hj : j < k) : (fl c l)[i * k + j]? = (l[i]?).bind fun a => (c a)[j]? := by
  induction l generalizing i with
  | nil => simp [fl]
  | cons a l ih =>
    rw [fl_cons]
    cases i with
    | zero => rw [List.getElem?_append_left (by rw [hc]; omega)]; simp
    | succ i =>
      rw [List.getElem?_append_right (by rw [hc, Nat.succ_mul]; omega), hc]
      have e : (i + 1) * k + j - k = i * k + j := by rw [Nat.succ_mul]; omega
      rw [e, ih]
      simp
theorem fl_at {α : Type} {c : α → List Value} {k : Nat} (hc : ∀ a, (c a).length = k) {l : List α} {i : Nat} (hi : i < l.length) {j : Nat} (hj : j < k) : (fl c l)[i * k + j]? = (c l[i])[j]? := by
  rw [fl_get hc l i j hj, List.getElem?_eq_getElem hi]
  rfl
theorem fl_oneCell {α : Type} {c : α → List Value} (h : ∀ a, ∀ u ∈ c a, u.oneCell' = true) (l : List α) : ∀ u ∈ fl c l, u.oneCell' = true := by
  intro u hu
  obtain ⟨a, _, ha⟩ := List.mem_flatMap.1 hu
  exact h a u ha
/-- A row that lies in memory. -/
structure RowOK {α : Type} (c : α → List Value) (w : World) (r : Row α) : Prop where
  le : r.l.length ≤ r.cap
  cap : r.cap ≤ 9223372036854775807
  rv : RV w r.A (fl c r.l)
theorem RowOK.below {α : Type} {c : α → List Value} {w w' : World} {r : Row α} (h : RowOK c w r) (b : Below w.heap.size w w') : RowOK c w' r := ⟨h.le, h.cap, h.rv.below b⟩
def noRow {α : Type} : Row α := ⟨none, 0, []⟩
theorem RowOK.none {α : Type} (c : α → List Value) (w : World) : RowOK c w noRow := ⟨Nat.le_refl _, Nat.zero_le _, RV.nil⟩
/- ### The cells -/
def txC (t : Txt) : List Value := [.string (bstr t)]
def tgC (t : Tag) : List Value := [.string (bstr t.text), .bool t.weak]
def spC (s : Spn) : List Value := [.int .i64 s.frm, .int .i64 s.to]
def fdC (f : Fld) : List Value := [.string (bstr f.name), .string (bstr f.value)]
def ptC (p : Prt) : List Value := [.string (bstr p.text), .int .i64 p.span.frm, .int .i64 p.span.to]
def byC (c : UInt8) : List Value := [.int .u8 (c.toNat : Int)]
theorem txC_len (a : Txt) : (txC a).length = 1 := rfl
theorem tgC_len (a : Tag) : (tgC a).length = 2 := rfl
theorem spC_len (a : Spn) : (spC a).length = 2 := rfl
theorem fdC_len (a : Fld) : (fdC a).length = 2 := rfl
theorem ptC_len (a : Prt) : (ptC a).length = 3 := rfl
theorem byC_len (a : UInt8) : (byC a).length = 1 := rfl
theorem txC_one (a : Txt) : ∀ u ∈ txC a, u.oneCell' = true := by intro u hu; simp [txC] at hu; subst hu; rfl
theorem tgC_one (a : Tag) : ∀ u ∈ tgC a, u.oneCell' = true := by intro u hu; simp [tgC] at hu; rcases hu with rfl | rfl <;> rfl
theorem spC_one (a : Spn) : ∀ u ∈ spC a, u.oneCell' = true := by intro u hu; simp [spC] at hu; rcases hu with rfl | rfl <;> rfl
theorem fdC_one (a : Fld) : ∀ u ∈ fdC a, u.oneCell' = true := by intro u hu; simp [fdC] at hu; rcases hu with rfl | rfl <;> rfl
theorem ptC_one (a : Prt) : ∀ u ∈ ptC a, u.oneCell' = true := by intro u hu; simp [ptC] at hu; rcases hu with rfl | rfl | rfl <;> rfl
theorem fl_by (l : Txt) : fl byC l = cB l := by
  unfold fl byC cB
  induction l with
  | nil => rfl
  | cons c l ih => rw [List.flatMap_cons, ih]; rfl
/-- What is asked, as its eleven cells say it. -/
structure ReqR where
  head : Bool
  object : Txt
  specs : Row Spn
  mtch : Row Tag
  non : Row Tag
  anyM : Bool
  anyN : Bool
  since : Int
  unless_ : Int
  range : Tag
def ReqR.cells (q : ReqR) : List Value := [.bool q.head, .string (bstr q.object), q.specs.val, q.mtch.val, q.non.val, .bool q.anyM, .bool q.anyN, .int .i64 q.since, .int .i64 q.unless_, .string (bstr q.range.text), .bool q.range.weak]
def ReqR.abs (q : ReqR) : Req := ⟨q.head, q.object, q.specs.l, ⟨q.mtch.l, q.non.l, q.anyM, q.anyN, q.since, q.unless_, q.range⟩⟩
/-- A Meta, as its eleven cells say it. -/
structure MetR where
  tag : Tag
  modi : Int
  len : Int
  have_ : Int
  fresh : Int
  while_ : Int
  error : Int
  keys : Row Txt
  tenant : Txt
  keep : Bool
def MetR.cells (m : MetR) : List Value := [.string (bstr m.tag.text), .bool m.tag.weak, .int .i64 m.modi, .int .i64 m.len, .int .i64 m.have_, .int .i64 m.fresh, .int .i64 m.while_, .int .i64 m.error, m.keys.val, .string (bstr m.tenant), .bool m.keep]
def MetR.abs (m : MetR) : Met := ⟨m.tag, m.modi, m.len, m.have_, m.fresh, m.while_, m.error, m.keys.l, m.tenant, m.keep⟩
/-- An answer, as its four cells say it. -/
structure AnsR where
  status : Int
  fields : Row Fld
  parts : Row Prt
  size : Int
def AnsR.cells (a : AnsR) : List Value := [.int .i64 a.status, a.fields.val, a.parts.val, .int .i64 a.size]
def AnsR.abs (a : AnsR) : Ans := ⟨a.status, a.fields.l, a.parts.l, a.size⟩
def ftC (f : Fet) : List Value := [.string (bstr f.object), .int .i64 f.span.frm, .int .i64 f.span.to, .string (bstr f.mtch.text), .bool f.mtch.weak, .string (bstr f.non.text), .bool f.non.weak]
/-- A reply, as its fifteen cells say it. -/
structure RepR where
  status : Int
  met : MetR
  span : Spn
  age : Int
def RepR.cells (r : RepR) : List Value := .int .i64 r.status :: (r.met.cells ++ [.int .i64 r.span.frm, .int .i64 r.span.to, .int .i64 r.age])
def RepR.abs (r : RepR) : Rep := ⟨r.status, r.met.abs, r.span, r.age⟩
/-- An event, as its fifty-seven cells say it. -/
structure EvtR where
  kind : Int
  tick : Int
  node : Int
  who : Int
  object : Txt
  req : ReqR
  met : MetR
  ans : AnsR
  fet : Fet
  rep : RepR
  bytes : Row UInt8
  keys : Row Txt
  hard : Bool
  whole : Bool
def EvtR.cells (e : EvtR) : List Value := .int .i64 e.kind :: .int .i64 e.tick :: .int .i64 e.node :: .int .i64 e.who :: .string (bstr e.object) :: (e.req.cells ++ (e.met.cells ++ (e.ans.cells ++ (ftC e.fet ++ (e.rep.cells ++ [e.bytes.val, e.keys.val, .bool e.hard, .bool e.whole])))))
def EvtR.abs (e : EvtR) : Evt := ⟨e.kind, e.tick, e.node, e.who, e.object, e.req.abs, e.met.abs, e.ans.abs, e.fet, e.rep.abs, e.bytes.l, e.keys.l, e.hard, e.whole⟩
theorem EvtR.cells_len (e : EvtR) : e.cells.length = 57 := rfl
/- ### What is told of them -/
structure ReqOK (w : World) (q : ReqR) : Prop where
  specs : RowOK spC w q.specs
  mtch : RowOK tgC w q.mtch
  non : RowOK tgC w q.non
  i : ReqI q.abs
structure MetOK (w : World) (m : MetR) : Prop where
  keys : RowOK txC w m.keys
  i : MetI m.abs
structure AnsOK (w : World) (a : AnsR) : Prop where
  fields : RowOK fdC w a.fields
  parts : RowOK ptC w a.parts
  i : AnsI a.abs
structure RepOK (w : World) (r : RepR) : Prop where
  met : MetOK w r.met
  i : RepI r.abs
structure EvtOK (w : World) (e : EvtR) : Prop where
  kind : I64 e.kind
  tick : I64 e.tick
  node : I64 e.node
  who : I64 e.who
  req : ReqOK w e.req
  met : MetOK w e.met
  ans : AnsOK w e.ans
  fet : FetI e.fet
  rep : RepOK w e.rep
  bytes : RowOK byC w e.bytes
  keys : RowOK txC w e.keys
section
variable {w w' : World} (b : Below w.heap.size w w')
include b
theorem ReqOK.below {q : ReqR} (h : ReqOK w q) : ReqOK w' q := ⟨h.specs.below b, h.mtch.below b, h.non.below b, h.i⟩
theorem MetOK.below {m : MetR} (h : MetOK w m) : MetOK w' m := ⟨h.keys.below b, h.i⟩
theorem AnsOK.below {a : AnsR} (h : AnsOK w a) : AnsOK w' a := ⟨h.fields.below b, h.parts.below b, h.i⟩
theorem RepOK.below {r : RepR} (h : RepOK w r) : RepOK w' r := ⟨h.met.below b, h.i⟩
theorem EvtOK.below {e : EvtR} (h : EvtOK w e) : EvtOK w' e := ⟨h.kind, h.tick, h.node, h.who, h.req.below b, h.met.below b, h.ans.below b, h.fet, h.rep.below b, h.bytes.below b, h.keys.below b⟩
end
theorem EvtOK.evtI {w : World} {e : EvtR} (h : EvtOK w e) : EvtI e.abs := ⟨h.req.i, h.met.i, h.ans.i, h.fet, h.rep.i, Nat.le_trans h.keys.le h.keys.cap⟩
/- ### Nothing at all -/
def zReqR : ReqR := ⟨false, [], noRow, noRow, noRow, false, false, 0, 0, zTag⟩
def zMetR : MetR := ⟨zTag, 0, 0, 0, 0, 0, 0, noRow, [], false⟩
def zAnsR : AnsR := ⟨0, noRow, noRow, 0⟩
def zRepR : RepR := ⟨0, zMetR, zSpn, 0⟩
def zEvtR : EvtR := ⟨0, 0, 0, 0, [], zReqR, zMetR, zAnsR, zFet, zRepR, noRow, noRow, false, false⟩
theorem zReqR_ok (w : World) : ReqOK w zReqR := ⟨RowOK.none _ _, RowOK.none _ _, RowOK.none _ _, by unfold ReqI LstI CndI I64; simp [zReqR, ReqR.abs, noRow]⟩
theorem zMetR_ok (w : World) : MetOK w zMetR := ⟨RowOK.none _ _, by unfold MetI I64; simp [zMetR, MetR.abs, noRow]⟩
theorem zAnsR_ok (w : World) : AnsOK w zAnsR := ⟨RowOK.none _ _, RowOK.none _ _, by unfold AnsI LstI I64; simp [zAnsR, AnsR.abs, noRow]⟩
theorem zRepR_ok (w : World) : RepOK w zRepR := ⟨zMetR_ok w, by unfold RepI SpnI I64; refine ⟨⟨by decide, by decide⟩, (zMetR_ok w).i, ⟨⟨by decide, by decide⟩, by decide, by decide⟩, by decide, by decide⟩⟩
theorem zFet_i : FetI zFet := by unfold FetI SpnI I64; exact ⟨⟨by decide, by decide⟩, by decide, by decide⟩
theorem zEvtR_ok (w : World) : EvtOK w zEvtR := ⟨⟨by decide, by decide⟩, ⟨by decide, by decide⟩, ⟨by decide, by decide⟩, ⟨by decide, by decide⟩, zReqR_ok w, zMetR_ok w, zAnsR_ok w, zFet_i, zRepR_ok w, RowOK.none _ _, RowOK.none _ _⟩
end Go.Proofs.YtiokbebodblhaaaGreatDoor
namespace Go.Proofs
open Go.Shelf
def Tryz.lays169_ren : Go.Shelf.Ren := ⟨fun | 169 => 56 | n => n, fun | 70 => 111 | 9 => 9 | 0 => 0 | 72 => 113 | 37 => 43 | 127 => 165 | 3 => 3 | 5 => 5 | n => n, fun | n => n⟩
theorem Tryz.lays169 : Go.Proofs.Lays.n169 Tryz.prog Tryz.lays169_ren := {
  mixed := by kernel_rfl
  f169 := Tryz.func56.trans (congrArg some (by kernel_rfl))
  t0 := Tryz.underlying0
  a0 := Tryz.isAgg0
  z0 := Tryz.sizeOf0
  v0 := Tryz.zeroValue0
  t3 := Tryz.underlying3
  a3 := Tryz.isAgg3
  z3 := Tryz.sizeOf3
  v3 := Tryz.zeroValue3
  t9 := Tryz.underlying9
  a9 := Tryz.isAgg9
  z9 := Tryz.sizeOf9
  v9 := Tryz.zeroValue9
  t37 := Tryz.underlying43
  a37 := Tryz.isAgg43
  z37 := Tryz.sizeOf43
  v37 := Tryz.zeroValue43
  t70 := Tryz.underlying111
  a70 := Tryz.isAgg111
  z70 := Tryz.sizeOf111
  v70 := Tryz.zeroValue111
  t72 := Tryz.underlying113
  a72 := Tryz.isAgg113
  z72 := Tryz.sizeOf113
  v72 := Tryz.zeroValue113
  t127 := Tryz.underlying165
  a127 := Tryz.isAgg165
  z127 := Tryz.sizeOf165
  v127 := Tryz.zeroValue165 }
theorem Tryz.Builder_Extra_169 : Builder.Extra Tryz.prog Tryz.lays169_ren := {
  sizeBuilder := by kernel_rfl
  liesBuilder := by kernel_rfl
  t5 := Tryz.underlying5
  a5 := Tryz.isAgg5
  z5 := Tryz.sizeOf5
  v5 := Tryz.zeroValue5
  infoByte := by kernel_rfl
  cellsByte := by kernel_rfl
  sizeByte := by kernel_rfl
  neB5 := by decide }
def Tryz.lays156_ren : Go.Shelf.Ren := ⟨fun | 156 => 73 | 165 => 118 | 166 => 54 | 169 => 56 | 240 => 111 | 241 => 143 | 276 => 141 | 277 => 160 | n => n, fun | 31 => 30 | 9 => 9 | 3 => 3 | 4 => 4 | 0 => 0 | 20 => 20 | 72 => 113 | 76 => 116 | 70 => 111 | 37 => 43 | 75 => 115 | 127 => 165 | 164 => 190 | 5 => 5 | 80 => 99 | n => n, fun | n => n⟩
theorem Tryz.lays156 : Go.Proofs.Lays.n156 Tryz.prog Tryz.lays156_ren := {
  mixed := by kernel_rfl
  f156 := Tryz.func73.trans (congrArg some (by kernel_rfl))
  f165 := Tryz.func118.trans (congrArg some (by kernel_rfl))
  f166 := Tryz.func54.trans (congrArg some (by kernel_rfl))
  f169 := Tryz.func56.trans (congrArg some (by kernel_rfl))
  f240 := Tryz.func111.trans (congrArg some (by kernel_rfl))
  f241 := Tryz.func143.trans (congrArg some (by kernel_rfl))
  f276 := Tryz.func141.trans (congrArg some (by kernel_rfl))
  f277 := Tryz.func160.trans (congrArg some (by kernel_rfl))
  t0 := Tryz.underlying0
  a0 := Tryz.isAgg0
  z0 := Tryz.sizeOf0
  v0 := Tryz.zeroValue0
  t3 := Tryz.underlying3
  a3 := Tryz.isAgg3
  z3 := Tryz.sizeOf3
  v3 := Tryz.zeroValue3
  t4 := Tryz.underlying4
  a4 := Tryz.isAgg4
  z4 := Tryz.sizeOf4
  v4 := Tryz.zeroValue4
  t9 := Tryz.underlying9
  a9 := Tryz.isAgg9
  z9 := Tryz.sizeOf9
  v9 := Tryz.zeroValue9
  t20 := Tryz.underlying20
  a20 := Tryz.isAgg20
  z20 := Tryz.sizeOf20
  v20 := Tryz.zeroValue20
  t31 := Tryz.underlying30
  a31 := Tryz.isAgg30
  z31 := Tryz.sizeOf30
  v31 := Tryz.zeroValue30
  t37 := Tryz.underlying43
  a37 := Tryz.isAgg43
  z37 := Tryz.sizeOf43
  v37 := Tryz.zeroValue43
  t70 := Tryz.underlying111
  a70 := Tryz.isAgg111
  z70 := Tryz.sizeOf111
  v70 := Tryz.zeroValue111
  t72 := Tryz.underlying113
  a72 := Tryz.isAgg113
  z72 := Tryz.sizeOf113
  v72 := Tryz.zeroValue113
  t75 := Tryz.underlying115
  a75 := Tryz.isAgg115
  z75 := Tryz.sizeOf115
  v75 := Tryz.zeroValue115
  t76 := Tryz.underlying116
  a76 := Tryz.isAgg116
  z76 := Tryz.sizeOf116
  v76 := Tryz.zeroValue116
  t127 := Tryz.underlying165
  a127 := Tryz.isAgg165
  z127 := Tryz.sizeOf165
  v127 := Tryz.zeroValue165
  t164 := Tryz.underlying190
  a164 := Tryz.isAgg190
  z164 := Tryz.sizeOf190
  v164 := Tryz.zeroValue190 }
theorem Tryz.Builder_Extra_156 : Builder.Extra Tryz.prog Tryz.lays156_ren := {
  sizeBuilder := by kernel_rfl
  liesBuilder := by kernel_rfl
  t5 := Tryz.underlying5
  a5 := Tryz.isAgg5
  z5 := Tryz.sizeOf5
  v5 := Tryz.zeroValue5
  infoByte := by kernel_rfl
  cellsByte := by kernel_rfl
  sizeByte := by kernel_rfl
  neB5 := by decide }
open Go.RowKit in
/-- No element: the empty string; the world is as it was. (Whatever the slice's address and capacity: a nil slice too.) (LAID: no walk: one application.) -/
theorem Tryz.strings_Join_none (a : Option Addr) (c : Nat) (sep : ByteArray) (w : World) :
    Calls Tryz.prog 73 #[.slice a 0 c, .string sep] w fun e w' => e = .returned (.string ⟨#[]⟩) ∧ w' = w := Any.strings_Join_none Tryz.lays156 Tryz.Builder_Extra_156 a c sep w
open Go.RowKit in
/-- strings.Join: "Join concatenates the elements of its first argument to create a single string. The separator string sep is placed between elements in the resulting string.": HOWEVER MANY ELEMENTS. Below the heap's end the world is as it was. (LAID: no walk: one application.) -/
theorem Tryz.strings_Join (bk o c : Nat) (xs : List ByteArray) (sep : ByteArray) (w : World) (hcells : ∀ (j : Nat) x, xs[j]? = some x → w.cell? ⟨bk, o + j, none⟩ = some (.string x)) (hbk : bk < w.heap.size) (hN : xs.length ≤ 140737488355328) (hcap : xs.length ≤ c) (hlen : (Lib.join (xs.map (·.data.toList)) sep.data.toList).length ≤ 140737488355328) :
    Calls Tryz.prog 73 #[.slice (some ⟨bk, o, none⟩) xs.length c, .string sep] w fun e w' => e = .returned (.string ⟨(Lib.join (xs.map (·.data.toList)) sep.data.toList).toArray⟩) ∧ Below w.heap.size w w' := Any.strings_Join Tryz.lays156 Tryz.Builder_Extra_156 bk o c xs sep w hcells hbk hN hcap hlen
def Tryz.lays137_ren : Go.Shelf.Ren := ⟨fun | 137 => 150 | 217 => 152 | 266 => 168 | n => n, fun | 9 => 9 | 5 => 5 | 3 => 3 | n => n, fun | n => n⟩
theorem Tryz.lays137 : Go.Proofs.Lays.n137 Tryz.prog Tryz.lays137_ren := {
  mixed := by kernel_rfl
  f137 := Tryz.func150.trans (congrArg some (by kernel_rfl))
  f217 := Tryz.func152.trans (congrArg some (by kernel_rfl))
  f266 := Tryz.func168.trans (congrArg some (by kernel_rfl))
  t3 := Tryz.underlying3
  a3 := Tryz.isAgg3
  z3 := Tryz.sizeOf3
  v3 := Tryz.zeroValue3
  t5 := Tryz.underlying5
  a5 := Tryz.isAgg5
  z5 := Tryz.sizeOf5
  v5 := Tryz.zeroValue5
  t9 := Tryz.underlying9
  a9 := Tryz.isAgg9
  z9 := Tryz.sizeOf9
  v9 := Tryz.zeroValue9 }
open Go.RowKit in
/-- strings.IndexByte: "IndexByte returns the index of the first instance of c in s, or -1 if c is not present in s.": IT RETURNS 'Lib.indexByte s c'; the world is as it was. (LAID: no walk: one application.) -/
theorem Tryz.strings_IndexByte (s : ByteArray) (c : Int) (w : World) :
    Calls Tryz.prog 150 #[.string s, .int .u8 c] w fun e w' => e = .returned (.int .i64 (Lib.indexByte s.data.toList c.toNat.toUInt8)) ∧ w' = w := Any.strings_IndexByte Tryz.lays137 s c w
open Go.RowKit in
/-- (*strings.Builder).String: "String returns the accumulated string.": WHATEVER THE BUILDER HOLDS; THE FORM '_k': OVER 'Lib.IsBuilderF' (a builder that 'String()' may have read), AND WITH THE FRAME THAT REACHES ABOVE THE BUILDER: 'Lib.OthersKept': every block that is not b and is no row of uint8's stands as it stood: the iterator of a range among them. (LAID: no walk: one application.) -/
theorem Tryz.Builder_String_any_k (B b : Nat) (l : List UInt8) (w : World) (h : Lib.IsBuilderF 113 5 B b (Lib.byteCells l) w) (hBw : B ≤ w.heap.size) :
    Calls Tryz.prog 56 #[.pointer (some ⟨b, 0, none⟩)] w fun e w' => e = .returned (.string ⟨l.toArray⟩) ∧ (Lib.IsBuilderF 113 5 B b (Lib.byteCells l) w' ∧ Below B w w' ∧ Lib.OthersKept 5 (some b) w w') := Any.Builder_String_any_k Tryz.lays169 Tryz.Builder_Extra_169 B b l w h hBw
def Tryz.laysM173_ren : Go.Shelf.Ren := ⟨fun | 173 => 113 | 246 => 142 | 283 => 156 | 284 => 157 | 285 => 158 | 286 => 159 | 129 => 171 | 317 => 170 | 318 => 172 | 319 => 173 | 320 => 174 | 337 => 181 | 338 => 182 | n => n, fun | 2 => 2 | 3 => 3 | 9 => 9 | 4 => 4 | 171 => 204 | 0 => 0 | 53 => 200 | 37 => 43 | 5 => 5 | 173 => 207 | 212 => 218 | 51 => 214 | 20 => 20 | 213 => 219 | 46 => 192 | 232 => 233 | 233 => 234 | n => n, fun | 17 => 2 | 18 => 7 | 19 => 8 | n => n⟩
theorem Tryz.laysM173 : Go.Proofs.LaysM.n173 Tryz.prog Tryz.laysM173_ren := {
  mixed := by kernel_rfl
  f129 := Tryz.func171.trans (congrArg some (by kernel_rfl))
  f173 := Tryz.func113.trans (congrArg some (by kernel_rfl))
  f246 := Tryz.func142.trans (congrArg some (by kernel_rfl))
  f283 := Tryz.func156.trans (congrArg some (by kernel_rfl))
  f284 := Tryz.func157.trans (congrArg some (by kernel_rfl))
  f285 := Tryz.func158.trans (congrArg some (by kernel_rfl))
  f286 := Tryz.func159.trans (congrArg some (by kernel_rfl))
  f317 := Tryz.func170.trans (congrArg some (by kernel_rfl))
  f318 := Tryz.func172.trans (congrArg some (by kernel_rfl))
  f319 := Tryz.func173.trans (congrArg some (by kernel_rfl))
  f320 := Tryz.func174.trans (congrArg some (by kernel_rfl))
  f337 := Tryz.func181.trans (congrArg some (by kernel_rfl))
  f338 := Tryz.func182.trans (congrArg some (by kernel_rfl))
  t0 := Tryz.underlying0
  a0 := Tryz.isAgg0
  z0 := Tryz.sizeOf0
  v0 := Tryz.zeroValue0
  t2 := Tryz.underlying2
  a2 := Tryz.isAgg2
  z2 := Tryz.sizeOf2
  v2 := Tryz.zeroValue2
  t3 := Tryz.underlying3
  a3 := Tryz.isAgg3
  z3 := Tryz.sizeOf3
  v3 := Tryz.zeroValue3
  t4 := Tryz.underlying4
  a4 := Tryz.isAgg4
  z4 := Tryz.sizeOf4
  v4 := Tryz.zeroValue4
  t5 := Tryz.underlying5
  a5 := Tryz.isAgg5
  z5 := Tryz.sizeOf5
  v5 := Tryz.zeroValue5
  t9 := Tryz.underlying9
  a9 := Tryz.isAgg9
  z9 := Tryz.sizeOf9
  v9 := Tryz.zeroValue9
  t20 := Tryz.underlying20
  a20 := Tryz.isAgg20
  z20 := Tryz.sizeOf20
  v20 := Tryz.zeroValue20
  t37 := Tryz.underlying43
  a37 := Tryz.isAgg43
  z37 := Tryz.sizeOf43
  v37 := Tryz.zeroValue43
  t46 := Tryz.underlying192
  a46 := Tryz.isAgg192
  z46 := Tryz.sizeOf192
  v46 := Tryz.zeroValue192
  t51 := Tryz.underlying214
  a51 := Tryz.isAgg214
  z51 := Tryz.sizeOf214
  v51 := Tryz.zeroValue214
  t53 := Tryz.underlying200
  a53 := Tryz.isAgg200
  z53 := Tryz.sizeOf200
  v53 := Tryz.zeroValue200
  t171 := Tryz.underlying204
  a171 := Tryz.isAgg204
  z171 := Tryz.sizeOf204
  v171 := Tryz.zeroValue204
  t173 := Tryz.underlying207
  a173 := Tryz.isAgg207
  z173 := Tryz.sizeOf207
  v173 := Tryz.zeroValue207
  t212 := Tryz.underlying218
  a212 := Tryz.isAgg218
  z212 := Tryz.sizeOf218
  v212 := Tryz.zeroValue218
  t213 := Tryz.underlying219
  a213 := Tryz.isAgg219
  z213 := Tryz.sizeOf219
  t232 := Tryz.underlying233
  a232 := Tryz.isAgg233
  z232 := Tryz.sizeOf233
  v232 := Tryz.zeroValue233
  t233 := Tryz.underlying234
  a233 := Tryz.isAgg234
  z233 := Tryz.sizeOf234
  v233 := Tryz.zeroValue234
  g17 := by kernel_rfl
  g18 := by kernel_rfl
  g19 := by kernel_rfl
  i0 := by kernel_rfl
  i2 := by kernel_rfl
  i3 := by kernel_rfl
  i4 := by kernel_rfl
  i5 := by kernel_rfl
  i9 := by kernel_rfl
  i20 := by kernel_rfl
  i37 := by kernel_rfl
  i46 := by kernel_rfl
  i51 := by kernel_rfl
  i53 := by kernel_rfl
  i171 := by kernel_rfl
  i173 := by kernel_rfl
  i212 := by kernel_rfl
  i232 := by kernel_rfl
  i233 := by kernel_rfl
  m17 := by kernel_rfl
  m18 := by kernel_rfl
  m19 := by kernel_rfl }
open Go.RowKit Go.Sort Go.Lib in
/-- strconv.FormatInt: "FormatInt returns the string representation of i in the given base": AT BASE 10: i's decimal numeral, for every int64. (LAID: no walk: one application.) -/
theorem Tryz.strconv_FormatInt_10 (n : Int) (h0 : -9223372036854775808 ≤ n) (h1 : n ≤ 9223372036854775807) (w : World) (htab : Lib.TabIs Tryz.prog w "internal/strconv.uint64pow10" .u64 Lib.pow10Tab) :
    Calls Tryz.prog 113 #[.int .i64 n, .int .i64 10] w fun e w' => e = .returned (.string ⟨(Lib.itoa n).toArray⟩) ∧ ∃ k os, w' = grow (w.drewN k) os := Any.strconv_FormatInt_10 Tryz.laysM173 n h0 h1 w htab
def Tryz.lays173_ren : Go.Shelf.Ren := ⟨fun | 173 => 113 | 246 => 142 | 283 => 156 | 284 => 157 | 285 => 158 | 286 => 159 | 129 => 171 | 317 => 170 | 318 => 172 | 319 => 173 | 320 => 174 | 337 => 181 | 338 => 182 | n => n, fun | 2 => 2 | 3 => 3 | 9 => 9 | 4 => 4 | 171 => 204 | 0 => 0 | 53 => 200 | 37 => 43 | 5 => 5 | 173 => 207 | 212 => 218 | 51 => 214 | 20 => 20 | 213 => 219 | 46 => 192 | 232 => 233 | 233 => 234 | n => n, fun | 17 => 2 | 18 => 7 | 19 => 8 | n => n⟩
theorem Tryz.lays173 : Go.Proofs.Lays.n173 Tryz.prog Tryz.lays173_ren := {
  mixed := by kernel_rfl
  f129 := Tryz.func171.trans (congrArg some (by kernel_rfl))
  f173 := Tryz.func113.trans (congrArg some (by kernel_rfl))
  f246 := Tryz.func142.trans (congrArg some (by kernel_rfl))
  f283 := Tryz.func156.trans (congrArg some (by kernel_rfl))
  f284 := Tryz.func157.trans (congrArg some (by kernel_rfl))
  f285 := Tryz.func158.trans (congrArg some (by kernel_rfl))
  f286 := Tryz.func159.trans (congrArg some (by kernel_rfl))
  f317 := Tryz.func170.trans (congrArg some (by kernel_rfl))
  f318 := Tryz.func172.trans (congrArg some (by kernel_rfl))
  f319 := Tryz.func173.trans (congrArg some (by kernel_rfl))
  f320 := Tryz.func174.trans (congrArg some (by kernel_rfl))
  f337 := Tryz.func181.trans (congrArg some (by kernel_rfl))
  f338 := Tryz.func182.trans (congrArg some (by kernel_rfl))
  t0 := Tryz.underlying0
  a0 := Tryz.isAgg0
  z0 := Tryz.sizeOf0
  v0 := Tryz.zeroValue0
  t2 := Tryz.underlying2
  a2 := Tryz.isAgg2
  z2 := Tryz.sizeOf2
  v2 := Tryz.zeroValue2
  t3 := Tryz.underlying3
  a3 := Tryz.isAgg3
  z3 := Tryz.sizeOf3
  v3 := Tryz.zeroValue3
  t4 := Tryz.underlying4
  a4 := Tryz.isAgg4
  z4 := Tryz.sizeOf4
  v4 := Tryz.zeroValue4
  t5 := Tryz.underlying5
  a5 := Tryz.isAgg5
  z5 := Tryz.sizeOf5
  v5 := Tryz.zeroValue5
  t9 := Tryz.underlying9
  a9 := Tryz.isAgg9
  z9 := Tryz.sizeOf9
  v9 := Tryz.zeroValue9
  t20 := Tryz.underlying20
  a20 := Tryz.isAgg20
  z20 := Tryz.sizeOf20
  v20 := Tryz.zeroValue20
  t37 := Tryz.underlying43
  a37 := Tryz.isAgg43
  z37 := Tryz.sizeOf43
  v37 := Tryz.zeroValue43
  t46 := Tryz.underlying192
  a46 := Tryz.isAgg192
  z46 := Tryz.sizeOf192
  v46 := Tryz.zeroValue192
  t51 := Tryz.underlying214
  a51 := Tryz.isAgg214
  z51 := Tryz.sizeOf214
  v51 := Tryz.zeroValue214
  t53 := Tryz.underlying200
  a53 := Tryz.isAgg200
  z53 := Tryz.sizeOf200
  v53 := Tryz.zeroValue200
  t171 := Tryz.underlying204
  a171 := Tryz.isAgg204
  z171 := Tryz.sizeOf204
  v171 := Tryz.zeroValue204
  t173 := Tryz.underlying207
  a173 := Tryz.isAgg207
  z173 := Tryz.sizeOf207
  v173 := Tryz.zeroValue207
  t212 := Tryz.underlying218
  a212 := Tryz.isAgg218
  z212 := Tryz.sizeOf218
  v212 := Tryz.zeroValue218
  t213 := Tryz.underlying219
  a213 := Tryz.isAgg219
  z213 := Tryz.sizeOf219
  t232 := Tryz.underlying233
  a232 := Tryz.isAgg233
  z232 := Tryz.sizeOf233
  v232 := Tryz.zeroValue233
  t233 := Tryz.underlying234
  a233 := Tryz.isAgg234
  z233 := Tryz.sizeOf234
  v233 := Tryz.zeroValue234
  g17 := by kernel_rfl
  g18 := by kernel_rfl
  g19 := by kernel_rfl }
open Go.RowKit Go.Sort Go.Lib in
/-- THE ROAD WITHOUT THE TABLE: 0 <= i < 100. (LAID: no walk: one application.) -/
theorem Tryz.strconv_FormatInt_10_small (i : Nat) (hi : i < 100) (w : World) :
    Calls Tryz.prog 113 #[.int .i64 i, .int .i64 10] w fun e w' => e = .returned (.string ⟨(Lib.decDigits i).toArray⟩) ∧ w' = w := Any.strconv_FormatInt_10_small Tryz.lays173 i hi w
def Tryz.laysC174_ren : Go.Shelf.Ren := ⟨fun | 174 => 122 | 247 => 147 | 245 => 148 | 287 => 162 | 279 => 163 | 280 => 164 | 281 => 165 | 282 => 166 | 321 => 175 | 322 => 176 | 316 => 177 | 171 => 179 | 205 => 178 | 243 => 183 | 246 => 142 | 283 => 156 | 284 => 157 | 285 => 158 | 286 => 159 | 129 => 171 | 317 => 170 | 318 => 172 | 319 => 173 | 320 => 174 | 337 => 181 | 338 => 182 | n => n, fun | 9 => 9 | 3 => 3 | 2 => 2 | 75 => 115 | 85 => 173 | 4 => 4 | 167 => 210 | 5 => 5 | 53 => 200 | 175 => 201 | 46 => 192 | 168 => 211 | 37 => 43 | 0 => 0 | 210 => 226 | 21 => 21 | 127 => 165 | 145 => 232 | 143 => 230 | 171 => 204 | 173 => 207 | 212 => 218 | 51 => 214 | 20 => 20 | 213 => 219 | 232 => 233 | 233 => 234 | 80 => 99 | n => n, fun | 15 => 5 | 16 => 6 | 17 => 2 | 18 => 7 | 19 => 8 | n => n⟩
theorem Tryz.laysC174 : Go.Proofs.LaysC.n174 Tryz.prog Tryz.laysC174_ren := {
  mixed := by kernel_rfl
  f129 := Tryz.func171.trans (congrArg some (by kernel_rfl))
  f171 := Tryz.func179.trans (congrArg some (by kernel_rfl))
  f174 := Tryz.func122.trans (congrArg some (by kernel_rfl))
  f205 := Tryz.func178.trans (congrArg some (by kernel_rfl))
  f243 := Tryz.func183.trans (congrArg some (by kernel_rfl))
  f245 := Tryz.func148.trans (congrArg some (by kernel_rfl))
  f246 := Tryz.func142.trans (congrArg some (by kernel_rfl))
  f247 := Tryz.func147.trans (congrArg some (by kernel_rfl))
  f279 := Tryz.func163.trans (congrArg some (by kernel_rfl))
  f280 := Tryz.func164.trans (congrArg some (by kernel_rfl))
  f281 := Tryz.func165.trans (congrArg some (by kernel_rfl))
  f282 := Tryz.func166.trans (congrArg some (by kernel_rfl))
  f283 := Tryz.func156.trans (congrArg some (by kernel_rfl))
  f284 := Tryz.func157.trans (congrArg some (by kernel_rfl))
  f285 := Tryz.func158.trans (congrArg some (by kernel_rfl))
  f286 := Tryz.func159.trans (congrArg some (by kernel_rfl))
  f287 := Tryz.func162.trans (congrArg some (by kernel_rfl))
  f316 := Tryz.func177.trans (congrArg some (by kernel_rfl))
  f317 := Tryz.func170.trans (congrArg some (by kernel_rfl))
  f318 := Tryz.func172.trans (congrArg some (by kernel_rfl))
  f319 := Tryz.func173.trans (congrArg some (by kernel_rfl))
  f320 := Tryz.func174.trans (congrArg some (by kernel_rfl))
  f321 := Tryz.func175.trans (congrArg some (by kernel_rfl))
  f322 := Tryz.func176.trans (congrArg some (by kernel_rfl))
  f337 := Tryz.func181.trans (congrArg some (by kernel_rfl))
  f338 := Tryz.func182.trans (congrArg some (by kernel_rfl))
  t0 := Tryz.underlying0
  a0 := Tryz.isAgg0
  z0 := Tryz.sizeOf0
  v0 := Tryz.zeroValue0
  t2 := Tryz.underlying2
  a2 := Tryz.isAgg2
  z2 := Tryz.sizeOf2
  v2 := Tryz.zeroValue2
  t3 := Tryz.underlying3
  a3 := Tryz.isAgg3
  z3 := Tryz.sizeOf3
  v3 := Tryz.zeroValue3
  t4 := Tryz.underlying4
  a4 := Tryz.isAgg4
  z4 := Tryz.sizeOf4
  v4 := Tryz.zeroValue4
  t5 := Tryz.underlying5
  a5 := Tryz.isAgg5
  z5 := Tryz.sizeOf5
  v5 := Tryz.zeroValue5
  t9 := Tryz.underlying9
  a9 := Tryz.isAgg9
  z9 := Tryz.sizeOf9
  v9 := Tryz.zeroValue9
  t20 := Tryz.underlying20
  a20 := Tryz.isAgg20
  z20 := Tryz.sizeOf20
  v20 := Tryz.zeroValue20
  t21 := Tryz.underlying21
  a21 := Tryz.isAgg21
  z21 := Tryz.sizeOf21
  v21 := Tryz.zeroValue21
  t37 := Tryz.underlying43
  a37 := Tryz.isAgg43
  z37 := Tryz.sizeOf43
  v37 := Tryz.zeroValue43
  t46 := Tryz.underlying192
  a46 := Tryz.isAgg192
  z46 := Tryz.sizeOf192
  v46 := Tryz.zeroValue192
  t51 := Tryz.underlying214
  a51 := Tryz.isAgg214
  z51 := Tryz.sizeOf214
  v51 := Tryz.zeroValue214
  t53 := Tryz.underlying200
  a53 := Tryz.isAgg200
  z53 := Tryz.sizeOf200
  v53 := Tryz.zeroValue200
  t75 := Tryz.underlying115
  a75 := Tryz.isAgg115
  z75 := Tryz.sizeOf115
  v75 := Tryz.zeroValue115
  t85 := Tryz.underlying173
  a85 := Tryz.isAgg173
  z85 := Tryz.sizeOf173
  v85 := Tryz.zeroValue173
  t127 := Tryz.underlying165
  a127 := Tryz.isAgg165
  z127 := Tryz.sizeOf165
  v127 := Tryz.zeroValue165
  t143 := Tryz.underlying230
  a143 := Tryz.isAgg230
  z143 := Tryz.sizeOf230
  v143 := Tryz.zeroValue230
  t145 := Tryz.underlying232
  a145 := Tryz.isAgg232
  z145 := Tryz.sizeOf232
  v145 := Tryz.zeroValue232
  t167 := Tryz.underlying210
  a167 := Tryz.isAgg210
  z167 := Tryz.sizeOf210
  v167 := Tryz.zeroValue210
  t168 := Tryz.underlying211
  a168 := Tryz.isAgg211
  z168 := Tryz.sizeOf211
  v168 := Tryz.zeroValue211
  t171 := Tryz.underlying204
  a171 := Tryz.isAgg204
  z171 := Tryz.sizeOf204
  v171 := Tryz.zeroValue204
  t173 := Tryz.underlying207
  a173 := Tryz.isAgg207
  z173 := Tryz.sizeOf207
  v173 := Tryz.zeroValue207
  t175 := Tryz.underlying201
  a175 := Tryz.isAgg201
  z175 := Tryz.sizeOf201
  v175 := Tryz.zeroValue201
  t210 := Tryz.underlying226
  a210 := Tryz.isAgg226
  z210 := Tryz.sizeOf226
  v210 := Tryz.zeroValue226
  t212 := Tryz.underlying218
  a212 := Tryz.isAgg218
  z212 := Tryz.sizeOf218
  v212 := Tryz.zeroValue218
  t213 := Tryz.underlying219
  a213 := Tryz.isAgg219
  z213 := Tryz.sizeOf219
  t232 := Tryz.underlying233
  a232 := Tryz.isAgg233
  z232 := Tryz.sizeOf233
  v232 := Tryz.zeroValue233
  t233 := Tryz.underlying234
  a233 := Tryz.isAgg234
  z233 := Tryz.sizeOf234
  v233 := Tryz.zeroValue234
  g15 := by kernel_rfl
  g16 := by kernel_rfl
  g17 := by kernel_rfl
  g18 := by kernel_rfl
  g19 := by kernel_rfl
  t80 := Tryz.underlying99
  a80 := Tryz.isAgg99
  z80 := Tryz.sizeOf99
  v80 := Tryz.zeroValue99
  i0 := by kernel_rfl
  i2 := by kernel_rfl
  i3 := by kernel_rfl
  i4 := by kernel_rfl
  i5 := by kernel_rfl
  i9 := by kernel_rfl
  i20 := by kernel_rfl
  i21 := by kernel_rfl
  i37 := by kernel_rfl
  i46 := by kernel_rfl
  i51 := by kernel_rfl
  i53 := by kernel_rfl
  i75 := by kernel_rfl
  i80 := by kernel_rfl
  i85 := by kernel_rfl
  i127 := by kernel_rfl
  i143 := by kernel_rfl
  i145 := by kernel_rfl
  i167 := by kernel_rfl
  i168 := by kernel_rfl
  i171 := by kernel_rfl
  i173 := by kernel_rfl
  i175 := by kernel_rfl
  i210 := by kernel_rfl
  i212 := by kernel_rfl
  i232 := by kernel_rfl
  i233 := by kernel_rfl
  m15 := by kernel_rfl
  m16 := by kernel_rfl
  m17 := by kernel_rfl
  m18 := by kernel_rfl
  m19 := by kernel_rfl
  c0 := by kernel_rfl
  c2 := by kernel_rfl
  c3 := by kernel_rfl
  c4 := by kernel_rfl
  c5 := by kernel_rfl
  c9 := by kernel_rfl
  c20 := by kernel_rfl
  c21 := by kernel_rfl
  c37 := by kernel_rfl
  c46 := by kernel_rfl
  c51 := by kernel_rfl
  c53 := by kernel_rfl
  c75 := by kernel_rfl
  c80 := by kernel_rfl
  c85 := by kernel_rfl
  c127 := by kernel_rfl
  c143 := by kernel_rfl
  c145 := by kernel_rfl
  c167 := by kernel_rfl
  c168 := by kernel_rfl
  c171 := by kernel_rfl
  c173 := by kernel_rfl
  c175 := by kernel_rfl
  c210 := by kernel_rfl
  c212 := by kernel_rfl
  c213 := by kernel_rfl
  c232 := by kernel_rfl
  c233 := by kernel_rfl }
open Go.RowKit in
/-- strconv.ParseInt(s, 10, 64), AT EVERY STRING THAT SPELLS AN int64 ('Lib.parseIntB 64 s.data.toList = .ok v'): v, AND NO ERROR. (LAID: no walk: one application.) -/
theorem Tryz.strconv_ParseInt_10_at64_ok (s : ByteArray) (hmax : s.size ≤ 9223372036854775806) (v : Int) (h : Lib.parseIntB 64 s.data.toList = .ok v) (w : World) :
    Calls Tryz.prog 122 #[.string s, .int .i64 10, .int .i64 64] w fun e w' => e = .returned (.tuple #[.int .i64 v, .nilIface]) ∧ (w' = w ∨ ∃ t, w' = Lib.bytesWorld w 5 t) := Any.strconv_ParseInt_10_at64_ok Tryz.laysC174 s hmax v h w
open Go.RowKit in
open Go.RowKit in
theorem Tryz.strconv_ParseInt_10_at64_range_var (s : ByteArray) (hlim : s.size ≤ 281474976710656) (h : Lib.parseIntB 64 s.data.toList = .range) (tp : TypeId) (p : Value) (w : World) (hvar : w.var? Tryz.prog "strconv.ErrRange" = some #[.iface tp p]) :
    Calls Tryz.prog 122 #[.string s, .int .i64 10, .int .i64 64] w fun e w' => ∃ N, e = .returned (.tuple #[.int .i64 (Lib.intSat 64 s.data.toList), .iface 211 (.pointer (some ⟨N, 0, none⟩))]) ∧ w.heap.size ≤ N ∧ w'.heap[N]? = some (.cells #[.string ⟨#[80, 97, 114, 115, 101, 73, 110, 116]⟩, .string s, .iface tp p] 226 (0, 0)) ∧ Below w.heap.size w w' := Any.strconv_ParseInt_10_at64_range_var Tryz.laysC174 s hlim h tp p w hvar
def Tryz.lays145_ren : Go.Shelf.Ren := ⟨fun | 145 => 53 | 220 => 110 | 219 => 140 | 217 => 152 | 225 => 153 | 224 => 154 | 267 => 155 | 266 => 168 | 314 => 169 | n => n, fun | 9 => 9 | 4 => 4 | 59 => 109 | 3 => 3 | 5 => 5 | 46 => 192 | 146 => 215 | 51 => 214 | n => n, fun | 1 => 1 | n => n⟩
theorem Tryz.lays145 : Go.Proofs.Lays.n145 Tryz.prog Tryz.lays145_ren := {
  mixed := by kernel_rfl
  f145 := Tryz.func53.trans (congrArg some (by kernel_rfl))
  f217 := Tryz.func152.trans (congrArg some (by kernel_rfl))
  f219 := Tryz.func140.trans (congrArg some (by kernel_rfl))
  f220 := Tryz.func110.trans (congrArg some (by kernel_rfl))
  f224 := Tryz.func154.trans (congrArg some (by kernel_rfl))
  f225 := Tryz.func153.trans (congrArg some (by kernel_rfl))
  f266 := Tryz.func168.trans (congrArg some (by kernel_rfl))
  f267 := Tryz.func155.trans (congrArg some (by kernel_rfl))
  f314 := Tryz.func169.trans (congrArg some (by kernel_rfl))
  t3 := Tryz.underlying3
  a3 := Tryz.isAgg3
  z3 := Tryz.sizeOf3
  v3 := Tryz.zeroValue3
  t4 := Tryz.underlying4
  a4 := Tryz.isAgg4
  z4 := Tryz.sizeOf4
  v4 := Tryz.zeroValue4
  t5 := Tryz.underlying5
  a5 := Tryz.isAgg5
  z5 := Tryz.sizeOf5
  v5 := Tryz.zeroValue5
  t9 := Tryz.underlying9
  a9 := Tryz.isAgg9
  z9 := Tryz.sizeOf9
  v9 := Tryz.zeroValue9
  t46 := Tryz.underlying192
  a46 := Tryz.isAgg192
  z46 := Tryz.sizeOf192
  v46 := Tryz.zeroValue192
  t51 := Tryz.underlying214
  a51 := Tryz.isAgg214
  z51 := Tryz.sizeOf214
  v51 := Tryz.zeroValue214
  t59 := Tryz.underlying109
  a59 := Tryz.isAgg109
  z59 := Tryz.sizeOf109
  v59 := Tryz.zeroValue109
  t146 := Tryz.underlying215
  a146 := Tryz.isAgg215
  z146 := Tryz.sizeOf215
  v146 := Tryz.zeroValue215
  g1 := by kernel_rfl }
open Go.RowKit Go.Lib in
/-- strings.Cut: "Cut slices s around the first instance of sep, returning the text before and after sep. The found result reports whether sep appears in s. If sep does not appear in s, cut returns s, "", false.": IT RETURNS 'Lib.cut s sep'; the world is as it was but for the count of draws. (LAID: no walk: one application.) -/
theorem Tryz.strings_Cut (s sep : ByteArray) (m : Int) (w : World) (hs : s.size < 4294967281) (hm : w.cell? ⟨1, 0, none⟩ = some (.int .i64 m)) :
    Calls Tryz.prog 53 #[.string s, .string sep] w fun e w' => e = .returned (.tuple #[.string ⟨(Lib.cut s.data.toList sep.data.toList).1.toArray⟩, .string ⟨(Lib.cut s.data.toList sep.data.toList).2.1.toArray⟩, .bool (Lib.cut s.data.toList sep.data.toList).2.2]) ∧ ∃ n, w' = w.drewN n := Any.strings_Cut Tryz.lays145 s sep m w hs hm
def Tryz.laysM145_ren : Go.Shelf.Ren := ⟨fun | 145 => 53 | 220 => 110 | 219 => 140 | 217 => 152 | 225 => 153 | 224 => 154 | 267 => 155 | 266 => 168 | 314 => 169 | n => n, fun | 9 => 9 | 4 => 4 | 59 => 109 | 3 => 3 | 5 => 5 | 46 => 192 | 146 => 215 | 51 => 214 | n => n, fun | 1 => 1 | n => n⟩
theorem Tryz.laysM145 : Go.Proofs.LaysM.n145 Tryz.prog Tryz.laysM145_ren := {
  mixed := by kernel_rfl
  f145 := Tryz.func53.trans (congrArg some (by kernel_rfl))
  f217 := Tryz.func152.trans (congrArg some (by kernel_rfl))
  f219 := Tryz.func140.trans (congrArg some (by kernel_rfl))
  f220 := Tryz.func110.trans (congrArg some (by kernel_rfl))
  f224 := Tryz.func154.trans (congrArg some (by kernel_rfl))
  f225 := Tryz.func153.trans (congrArg some (by kernel_rfl))
  f266 := Tryz.func168.trans (congrArg some (by kernel_rfl))
  f267 := Tryz.func155.trans (congrArg some (by kernel_rfl))
  f314 := Tryz.func169.trans (congrArg some (by kernel_rfl))
  t3 := Tryz.underlying3
  a3 := Tryz.isAgg3
  z3 := Tryz.sizeOf3
  v3 := Tryz.zeroValue3
  t4 := Tryz.underlying4
  a4 := Tryz.isAgg4
  z4 := Tryz.sizeOf4
  v4 := Tryz.zeroValue4
  t5 := Tryz.underlying5
  a5 := Tryz.isAgg5
  z5 := Tryz.sizeOf5
  v5 := Tryz.zeroValue5
  t9 := Tryz.underlying9
  a9 := Tryz.isAgg9
  z9 := Tryz.sizeOf9
  v9 := Tryz.zeroValue9
  t46 := Tryz.underlying192
  a46 := Tryz.isAgg192
  z46 := Tryz.sizeOf192
  v46 := Tryz.zeroValue192
  t51 := Tryz.underlying214
  a51 := Tryz.isAgg214
  z51 := Tryz.sizeOf214
  v51 := Tryz.zeroValue214
  t59 := Tryz.underlying109
  a59 := Tryz.isAgg109
  z59 := Tryz.sizeOf109
  v59 := Tryz.zeroValue109
  t146 := Tryz.underlying215
  a146 := Tryz.isAgg215
  z146 := Tryz.sizeOf215
  v146 := Tryz.zeroValue215
  g1 := by kernel_rfl
  i3 := by kernel_rfl
  i4 := by kernel_rfl
  i5 := by kernel_rfl
  i9 := by kernel_rfl
  i46 := by kernel_rfl
  i51 := by kernel_rfl
  i59 := by kernel_rfl
  i146 := by kernel_rfl
  m1 := by kernel_rfl
  s1_3 := fun w h => Go.Proofs.cell_of_shapedOpen_int (zero := #[.int .i64 0]) (t := 3) h (of_decide_eq_true (by kernel_rfl)) (by kernel_rfl) rfl (by kernel_rfl) (by kernel_rfl) Tryz.underlying3 }
open Go.RowKit Go.Lib in
theorem Tryz.strings_Cut_shaped (s sep : ByteArray) (w : World) (h : w.ShapedOpen Tryz.prog) (hs : s.size < 4294967281) :
    Calls Tryz.prog 53 #[.string s, .string sep] w fun e w' => e = .returned (.tuple #[.string ⟨(Lib.cut s.data.toList sep.data.toList).1.toArray⟩, .string ⟨(Lib.cut s.data.toList sep.data.toList).2.1.toArray⟩, .bool (Lib.cut s.data.toList sep.data.toList).2.2]) ∧ ∃ n, w' = w.drewN n := Any.strings_Cut_shaped Tryz.laysM145 s sep w h hs
def Tryz.lays146_ren : Go.Shelf.Ren := ⟨fun | 146 => 42 | 221 => 78 | 268 => 119 | 138 => 120 | 143 => 121 | 195 => 144 | 197 => 145 | 218 => 146 | 219 => 140 | 260 => 161 | 217 => 152 | 225 => 153 | 224 => 154 | 267 => 155 | 266 => 168 | 314 => 169 | n => n, fun | 9 => 9 | 31 => 30 | 3 => 3 | 4 => 4 | 0 => 0 | 105 => 194 | 21 => 21 | 5 => 5 | 46 => 192 | 119 => 221 | 139 => 224 | 138 => 223 | 146 => 215 | 51 => 214 | n => n, fun | 1 => 1 | 3 => 3 | 4 => 4 | n => n⟩
theorem Tryz.lays146 : Go.Proofs.Lays.n146 Tryz.prog Tryz.lays146_ren := {
  mixed := by kernel_rfl
  f138 := Tryz.func120.trans (congrArg some (by kernel_rfl))
  f143 := Tryz.func121.trans (congrArg some (by kernel_rfl))
  f146 := Tryz.func42.trans (congrArg some (by kernel_rfl))
  f195 := Tryz.func144.trans (congrArg some (by kernel_rfl))
  f197 := Tryz.func145.trans (congrArg some (by kernel_rfl))
  f217 := Tryz.func152.trans (congrArg some (by kernel_rfl))
  f218 := Tryz.func146.trans (congrArg some (by kernel_rfl))
  f219 := Tryz.func140.trans (congrArg some (by kernel_rfl))
  f221 := Tryz.func78.trans (congrArg some (by kernel_rfl))
  f224 := Tryz.func154.trans (congrArg some (by kernel_rfl))
  f225 := Tryz.func153.trans (congrArg some (by kernel_rfl))
  f260 := Tryz.func161.trans (congrArg some (by kernel_rfl))
  f266 := Tryz.func168.trans (congrArg some (by kernel_rfl))
  f267 := Tryz.func155.trans (congrArg some (by kernel_rfl))
  f268 := Tryz.func119.trans (congrArg some (by kernel_rfl))
  f314 := Tryz.func169.trans (congrArg some (by kernel_rfl))
  t0 := Tryz.underlying0
  a0 := Tryz.isAgg0
  z0 := Tryz.sizeOf0
  v0 := Tryz.zeroValue0
  t3 := Tryz.underlying3
  a3 := Tryz.isAgg3
  z3 := Tryz.sizeOf3
  v3 := Tryz.zeroValue3
  t4 := Tryz.underlying4
  a4 := Tryz.isAgg4
  z4 := Tryz.sizeOf4
  v4 := Tryz.zeroValue4
  t5 := Tryz.underlying5
  a5 := Tryz.isAgg5
  z5 := Tryz.sizeOf5
  v5 := Tryz.zeroValue5
  t9 := Tryz.underlying9
  a9 := Tryz.isAgg9
  z9 := Tryz.sizeOf9
  v9 := Tryz.zeroValue9
  t21 := Tryz.underlying21
  a21 := Tryz.isAgg21
  z21 := Tryz.sizeOf21
  v21 := Tryz.zeroValue21
  t31 := Tryz.underlying30
  a31 := Tryz.isAgg30
  z31 := Tryz.sizeOf30
  v31 := Tryz.zeroValue30
  t46 := Tryz.underlying192
  a46 := Tryz.isAgg192
  z46 := Tryz.sizeOf192
  v46 := Tryz.zeroValue192
  t51 := Tryz.underlying214
  a51 := Tryz.isAgg214
  z51 := Tryz.sizeOf214
  v51 := Tryz.zeroValue214
  t105 := Tryz.underlying194
  a105 := Tryz.isAgg194
  z105 := Tryz.sizeOf194
  v105 := Tryz.zeroValue194
  t119 := Tryz.underlying221
  a119 := Tryz.isAgg221
  z119 := Tryz.sizeOf221
  t138 := Tryz.underlying223
  a138 := Tryz.isAgg223
  z138 := Tryz.sizeOf223
  v138 := Tryz.zeroValue223
  t139 := Tryz.underlying224
  a139 := Tryz.isAgg224
  z139 := Tryz.sizeOf224
  v139 := Tryz.zeroValue224
  t146 := Tryz.underlying215
  a146 := Tryz.isAgg215
  z146 := Tryz.sizeOf215
  v146 := Tryz.zeroValue215
  g1 := by kernel_rfl
  g3 := by kernel_rfl
  g4 := by kernel_rfl }
open Go.RowKit Go.Lib in
/-- strings.Split. (LAID: no walk: one application.) -/
theorem Tryz.strings_Split (s sep : ByteArray) (m : Int) (w : World) (hs : s.size < 4294967281) (hm : w.cell? ⟨1, 0, none⟩ = some (.int .i64 m)) (h1 : 1 ≤ sep.size) :
    Calls Tryz.prog 42 #[.string s, .string sep] w fun e w' =>
      e = .returned (.slice (some ⟨w.heap.size, 0, none⟩) (Lib.countB s sep + 1) (Lib.countB s sep + 1)) ∧ w' = w.alloc (.cells ((Lib.splitB sep 0 (Lib.countB s sep) s).map Value.string).toArray 9) := Any.strings_Split Tryz.lays146 (by kernel_rfl) s sep m w hs hm h1
end Go.Proofs
namespace Go.Proofs.YtiokbebodblhaaaGreatDoor
open Go.RowKit

open Classical in
/-- A later world: r, if nothing that lay in w has turned in it; else w itself. -/
noncomputable def grow (w r : World) : World := if Below w.heap.size w r then r else w
theorem grow_below (w r : World) : Below w.heap.size w (grow w r) := by
  unfold grow
  split
  · assumption
  · exact Below.refl _ _
theorem grow_of {w r : World} (h : Below w.heap.size w r) : grow w r = r := if_pos h
theorem wp_region_grow {P : Program} {id : Nat} {Q : Exit → Act → World → Prop} {a : Act} {w : World} {l : List Oper} (hm : P.follows .mixedOrders = true) (hB : Region.lexB .any l.toArray = true)
    (h : wpQuiet P l.toArray (fun w' => ∃ r, w' = grow w r) (fun a' => ∀ w', (∃ r, w' = grow w r) → Q .normal a' w') l a) : (Code.region id l.toArray true).wp P Q a w :=
  wp_region_quiet (C := fun w' => ∃ r, w' = grow w r) hm hB ⟨w.drew, (grow_of ((Below.refl _ _).drew)).symm⟩ (by simpa using h)
theorem calls_grow {P : Program} {f : FuncId} {args : Array Value} {w r : World} {v : Value}
    (h : Calls P f args (grow w r) fun e w' => e = .returned v ∧ Below (grow w r).heap.size (grow w r) w') : Calls P f args (grow w r) fun e w' => e = .returned v ∧ ∃ r', w' = grow w r' :=
  h.mono fun _ w' ⟨he, hb⟩ => ⟨he, w', (grow_of ((grow_below w r).trans (hb.mono (grow_below w r).size))).symm⟩
theorem calls_grow_same {P : Program} {f : FuncId} {args : Array Value} {w r : World} {v : Value}
    (h : Calls P f args (grow w r) fun e w' => e = .returned v ∧ grow w r = w') : Calls P f args (grow w r) fun e w' => e = .returned v ∧ ∃ r', w' = grow w r' :=
  h.mono fun _ _ ⟨he, hb⟩ => ⟨he, r, hb.symm⟩
end Go.Proofs.YtiokbebodblhaaaGreatDoor
namespace Go.Proofs.YtiokbebodblhaaaGreatDoor
open Go.RowKit TraceP

theorem bstr_add (a b : List UInt8) : bstr a ++ bstr b = bstr (a ++ b) := by
  unfold bstr
  apply ByteArray.ext
  simp
theorem bstr_size (a : List UInt8) : (bstr a).size = a.length := rfl
theorem bstr_data (a : List UInt8) : (bstr a).data.toList = a := by simp [bstr]
/-- What the library's functions find in their variables. -/
def Std (w : World) : Prop :=
  Lib.TabIs Tryz.prog w "internal/strconv.uint64pow10" .u64 Lib.pow10Tab ∧ (∃ tp p, w.var? Tryz.prog "strconv.ErrSyntax" = some #[.iface tp p]) ∧ (∃ tp p, w.var? Tryz.prog "strconv.ErrRange" = some #[.iface tp p]) ∧
    (∃ m, w.cell? ⟨1, 0, none⟩ = some (.int .i64 m)) ∧ ∀ k, k < 17 → w.cell? ⟨0, k, none⟩ = some (.string (bstr (kindT k)))
theorem var_below {w w' : World} (h : Below w.heap.size w w') {n : String} {cs : Array Value} (hv : w.var? Tryz.prog n = some cs) : w'.var? Tryz.prog n = some cs := by
  unfold World.var? at hv ⊢
  obtain ⟨g, hg, hm⟩ := Option.bind_eq_some_iff.1 hv
  rw [hg, Option.bind_some]
  cases hh : w.heap[g]? with
  | none => rw [hh] at hm; cases hm
  | some o => rw [h.block g (by rw [Array.getElem?_eq_some_iff] at hh; exact hh.1)]; exact hm
theorem cell_below {w w' : World} (h : Below w.heap.size w w') {b i : Nat} {v : Value} (hc : w.cell? ⟨b, i, none⟩ = some v) : w'.cell? ⟨b, i, none⟩ = some v := by
  have hb : b < w.heap.size := by
    rcases Nat.lt_or_ge b w.heap.size with h1 | h1
    · exact h1
    · exfalso
      unfold World.cell? at hc
      simp [Array.getElem?_eq_none h1] at hc
  exact (h.cell (p := ⟨b, i, none⟩) hb).trans hc
theorem Std.below {w w' : World} (h : Std w) (g : Below w.heap.size w w') : Std w' := by
  obtain ⟨a, ⟨t1, p1, b⟩, ⟨t2, p2, c⟩, ⟨m, d⟩, k⟩ := h
  exact ⟨var_below g a, ⟨t1, p1, var_below g b⟩, ⟨t2, p2, var_below g c⟩, ⟨m, cell_below g d⟩, fun i hi => cell_below g (k i hi)⟩
theorem fmt_calls (n : Int) (h0 : -9223372036854775808 ≤ n) (h1 : n ≤ 9223372036854775807) (w : World) (hS : Std w) :
    Calls Tryz.prog 113 #[.int .i64 n, .int .i64 10] w fun e w' => e = .returned (.string (bstr (Lib.itoa n))) ∧ Below w.heap.size w w' := by
  refine (Tryz.strconv_FormatInt_10 n h0 h1 w hS.1).mono ?_
  rintro e w' ⟨rfl, k, os, rfl⟩
  refine ⟨rfl, ?_⟩
  exact ⟨rfl, rfl, rfl, by simp [Sort.grow], fun j hj => by simp only [Sort.grow]; rw [Array.getElem?_append_left (by simpa using hj)]; rfl⟩
theorem pint_ok (l : List UInt8) (v : Int) (h : Lib.parseIntB 64 l = .ok v) (hl : l.length ≤ 1000000000) (w : World) :
    Calls Tryz.prog 122 #[.string (bstr l), .int .i64 10, .int .i64 64] w fun e w' => e = .returned (.tuple #[.int .i64 v, .nilIface]) ∧ Below w.heap.size w w' := by
  have e1 : (bstr l).data.toList = l := by simp [bstr]
  refine (Tryz.strconv_ParseInt_10_at64_ok (bstr l) (by rw [bstr_size]; omega) v (by rw [e1]; exact h) w).mono ?_
  rintro e w' ⟨rfl, rfl | ⟨t, rfl⟩⟩
  · exact ⟨rfl, Below.refl _ _⟩
  · exact ⟨rfl, Lib.bytesWorld_below _ _ _⟩
theorem pint_no (l : List UInt8) (h : ∀ v, Lib.parseIntB 64 l ≠ .ok v) (hl : l.length ≤ 1000000000) (w : World) (hS : Std w) :
    Calls Tryz.prog 122 #[.string (bstr l), .int .i64 10, .int .i64 64] w fun e w' => ∃ v N, e = .returned (.tuple #[.int .i64 v, .iface 211 (.pointer (some ⟨N, 0, none⟩))]) ∧ Below w.heap.size w w' := by
  have e1 : (bstr l).data.toList = l := by simp [bstr]
  obtain ⟨_, ⟨t1, p1, b⟩, ⟨t2, p2, c⟩, _, _⟩ := hS
  rcases hp : Lib.parseIntB 64 l with v | _ | _
  · exact absurd hp (h v)
  · refine (Any.strconv_ParseInt_10_at64_syntax_var Tryz.laysC174 (bstr l) (by rw [bstr_size]; omega) (by rw [e1]; exact hp) t1 p1 w b).mono ?_
    rintro e w' ⟨N, rfl, _, _, g⟩
    exact ⟨_, N, rfl, g⟩
  · refine (Tryz.strconv_ParseInt_10_at64_range_var (bstr l) (by rw [bstr_size]; omega) (by rw [e1]; exact hp) t2 p2 w c).mono ?_
    rintro e w' ⟨N, rfl, _, _, g⟩
    exact ⟨_, N, rfl, g⟩
theorem bstr_join (ks : List Txt) : ((ks.map bstr).map (·.data.toList)) = ks := by
  rw [List.map_map]
  conv => rhs; rw [← List.map_id ks]
  apply List.map_congr_left
  intro k _
  simp [bstr]
theorem join_calls (ks : List Txt) (A : Option Addr) (cap : Nat) (w : World) (hR : RV w A (fl txC ks)) (hcap : ks.length ≤ cap) (h1 : 1 ≤ ks.length) (hn : ks.length ≤ 100000000) (hlen : (Lib.join ks [32]).length ≤ 100000000000000) :
    Calls Tryz.prog 73 #[.slice A ks.length cap, .string ⟨#[32]⟩] w fun e w' => e = .returned (.string (bstr (Lib.join ks [32]))) ∧ Below w.heap.size w w' := by
  obtain ⟨b, off, e, hb, hc⟩ := hR (by intro e; have := congrArg List.length e; rw [fl_len txC_len] at this; simp at this; rw [this] at h1; simp at h1)
  subst e
  have := Tryz.strings_Join b off cap (ks.map bstr) ⟨#[32]⟩ w (fun j x hx => hc j _ (by
    have e := fl_get txC_len ks j 0 (by omega)
    rw [Nat.mul_one, Nat.add_zero] at e
    rw [e]
    rw [List.getElem?_map] at hx
    cases hk : ks[j]? with
    | none => rw [hk] at hx; cases hx
    | some k => rw [hk] at hx; injection hx with hx; rw [← hx]; rfl)) hb (by rw [List.length_map]; omega) (by rw [List.length_map]; exact hcap) (by rw [bstr_join]; simpa using Nat.le_trans hlen (by omega))
  rw [List.length_map, bstr_join] at this
  exact this
theorem growc {w : World} {b i : Nat} {v : Value} (hc : w.cell? ⟨b, i, none⟩ = some v) : ∀ r, (grow w r).cell? ⟨b, i, none⟩ = some v := fun r => cell_below (grow_below w r) hc
end Go.Proofs.YtiokbebodblhaaaGreatDoor
