/-
  A strings.Builder of the call's own: a text is put behind; it is told.
-/
import Derived.Test.YtnjcaepbelgpfaaGreatDoorTopStd
import Derived.Shelf.Strings.BuilderK
namespace Go.Proofs.YtnjcaepbelgpfaaGreatDoor
open Go.RowKit Go.Shelf

def bren : Go.Shelf.Ren := ⟨fun | 166 => 31 | 240 => 45 | 276 => 72 | n => Tryz.lays169_ren.f n, fun | 4 => 4 | 20 => 20 | 75 => 52 | 80 => 49 | 164 => 114 | n => Tryz.lays169_ren.t n, Tryz.lays169_ren.g⟩
theorem lays166 : Go.Proofs.Lays.n166 Tryz.prog bren := { Tryz.lays169 with
  f166 := Tryz.func31.trans (congrArg some (by kernel_rfl))
  f240 := Tryz.func45.trans (congrArg some (by kernel_rfl))
  f276 := Tryz.func72.trans (congrArg some (by kernel_rfl))
  t4 := Tryz.underlying4
  a4 := Tryz.isAgg4
  z4 := Tryz.sizeOf4
  v4 := Tryz.zeroValue4
  t20 := Tryz.underlying20
  a20 := Tryz.isAgg20
  z20 := Tryz.sizeOf20
  v20 := Tryz.zeroValue20
  t75 := Tryz.underlying52
  a75 := Tryz.isAgg52
  z75 := Tryz.sizeOf52
  v75 := Tryz.zeroValue52
  t164 := Tryz.underlying114
  a164 := Tryz.isAgg114
  z164 := Tryz.sizeOf114
  v164 := Tryz.zeroValue114 }
theorem extra166 : Builder.Extra Tryz.prog bren := {
  sizeBuilder := by kernel_rfl
  liesBuilder := by kernel_rfl
  t5 := Tryz.underlying5
  a5 := Tryz.isAgg5
  z5 := Tryz.sizeOf5
  v5 := Tryz.zeroValue5
  infoByte := by kernel_rfl
  cellsByte := by kernel_rfl
  sizeByte := by kernel_rfl
  neB5 := by decide }
/-- A builder that holds bytes. -/
abbrev Bld (B b : Nat) (l : Txt) (w : World) : Prop := Lib.IsBuilderF 78 5 B b (Lib.byteCells l) w
theorem bcells_len (l : Txt) : (Lib.byteCells l).length = l.length := by simp [Lib.byteCells]
theorem bcells_append (a b : Txt) : Lib.byteCells (a ++ b) = Lib.byteCells a ++ Lib.byteCells b := by simp [Lib.byteCells]
theorem bld_new (w : World) : Bld w.heap.size w.heap.size [] (w.alloc (.cells #[.pointer none, .slice none 0 0] 78)) :=
  .inl ⟨Nat.le_refl _, .slice none 0 0, heap_alloc_new w _, ⟨rfl, .inl ⟨rfl, rfl⟩⟩, by simp [Value.ownBlock]⟩
theorem bldAt_below {T e : TypeId} {B b : Nat} {p : Value} {bs : List Value} {w w' : World} (h : Lib.BuilderAtF T e B b p bs w) (d : Below w.heap.size w w') : Lib.BuilderAtF T e B b p bs w' := by
  obtain ⟨hB, v, hb, ho, hne⟩ := h
  refine ⟨hB, v, (d.block b (lt_of_block hb)).trans hb, ⟨ho.1, ?_⟩, hne⟩
  rcases ho.2 with h0 | ⟨g, cap, cur, fz, hv, h1, h2, h3⟩
  · exact .inl h0
  · exact .inr ⟨g, cap, cur, fz, hv, h1, (d.block g (lt_of_block h2)).trans h2, h3⟩
theorem bld_below {B b : Nat} {l : Txt} {w w' : World} (h : Bld B b l w) (d : Below w.heap.size w w') : Bld B b l w' := h.elim (fun x => .inl (bldAt_below x d)) (fun x => .inr (bldAt_below x d))
theorem strCells_b (l : Txt) : Lib.strCells (bstr l) = Lib.byteCells l := by
  unfold Lib.strCells Lib.byteCells
  simp [bstr]
theorem wstr_calls (B b : Nat) (l t : Txt) (w : World) (h : Bld B b l w) (hl : l.length + t.length ≤ 100000000000000) (hB : B ≤ w.heap.size) :
    Calls Tryz.prog 31 #[.pointer (some ⟨b, 0, none⟩), .string (bstr t)] w fun e w' => (∃ v, e = .returned v) ∧ Bld B b (l ++ t) w' ∧ Below B w w' := by
  have hz : (bstr t).size = t.length := rfl
  refine (Any.Builder_WriteString_k lays166 extra166 B b (Lib.byteCells l) (bstr t) w h (by rw [bcells_len, hz]; omega) hB).mono ?_
  rintro e w' ⟨rfl, h1, h2, _⟩
  refine ⟨⟨_, rfl⟩, .inr ?_, h2⟩
  rw [bcells_append, ← strCells_b t]
  exact h1
theorem bstring_calls (B b : Nat) (l : Txt) (w : World) (h : Bld B b l w) (hB : B ≤ w.heap.size) :
    Calls Tryz.prog 33 #[.pointer (some ⟨b, 0, none⟩)] w fun e w' => e = .returned (.string (bstr l)) ∧ Below B w w' := by
  refine (Tryz.Builder_String_any_k B b l w h hB).mono ?_
  rintro e w' ⟨rfl, _, h2, _⟩
  exact ⟨rfl, h2⟩
end Go.Proofs.YtnjcaepbelgpfaaGreatDoor
