/-
  What the library's functions give the store: numerals, numbers, joined words, a cut, a builder; what stands in the world's variables.
-/
import Derived.Test.YtendnkklbeiegaaGreatDoorStoMem
import Derived.Test.YtendnkklbeiegaaGreatDoorShelf
import Derived.Test.YtendnkklbeiegaaGreatDoorMAK
import Derived.Shelf.Strings.BuilderK
import Derived.Lib.LaidTab
namespace Go.Proofs.YtendnkklbeiegaaGreatDoor
open Go.RowKit Go.Shelf StoreP

theorem bstr_add (a b : List UInt8) : bstr a ++ bstr b = bstr (a ++ b) := by
  unfold bstr
  apply ByteArray.ext
  simp
theorem bstr_size (a : List UInt8) : (bstr a).size = a.length := rfl
theorem bstr_lit (l : Array UInt8) : (⟨l⟩ : ByteArray) = bstr l.toList := rfl
theorem bstr_data (a : List UInt8) : (bstr a).data.toList = a := by simp [bstr]
/-- What the library's functions and the sum find in their variables, which lie below base. -/
structure Glob (w : World) (base : Nat) : Prop where
  tab : Tab w
  pow : Lib.TabIs Tryz.prog w "internal/strconv.uint64pow10" .u64 Lib.pow10Tab
  len : ∃ m, w.cell? ⟨1, 0, none⟩ = some (.int .i64 m)
  low : 2 < base
theorem steps_low : 2 ≤ 2 := by decide
theorem Glob.steps {w : World} {base : Nat} (h : Glob w base) : 2 < base := by have := h.low; have := steps_low; omega
theorem Glob.below {w w' : World} {base : Nat} (h : Glob w base) (b : Below base w w') : Glob w' base := by
  obtain ⟨h1, h2, ⟨m, h3⟩, h4⟩ := h
  have hb : ∀ {g i : Nat}, g ≤ 2 → w'.cell? ⟨g, i, none⟩ = w.cell? ⟨g, i, none⟩ := fun {g i} hg => b.cell (p := ⟨g, i, none⟩) (by show g < base; omega)
  refine ⟨fun x => ?_, ?_, ⟨m, (hb (by decide)).trans h3⟩, h4⟩
  · exact (hb steps_low).trans (h1 x)
  · have hg : Tryz.prog.globalNamed "internal/strconv.uint64pow10" = some 0 := by kernel_rfl
    unfold Lib.TabIs World.var? at h2 ⊢
    rw [hg, Option.bind_some] at h2 ⊢
    rw [b.block _ (show 0 < base from Nat.lt_of_le_of_lt (by decide) h4)]
    exact h2
theorem Glob.bel {w w' : World} {base : Nat} (h : Glob w base) (b : Below w.heap.size w w') (hb : base ≤ w.heap.size) : Glob w' base := h.below (b.mono hb)
theorem fmt_calls (n : Int) (h0 : -9223372036854775808 ≤ n) (h1 : n ≤ 9223372036854775807) (w : World) (base : Nat) (hS : Glob w base) :
    Calls Tryz.prog 71 #[.int .i64 n, .int .i64 10] w fun e w' => e = .returned (.string (bstr (Lib.itoa n))) ∧ Below w.heap.size w w' := by
  refine (Tryz.strconv_FormatInt_10 n h0 h1 w hS.pow).mono ?_
  rintro e w' ⟨rfl, k, os, rfl⟩
  refine ⟨rfl, ?_⟩
  exact ⟨rfl, rfl, rfl, by simp [Sort.grow], fun j hj => by simp only [Sort.grow]; rw [Array.getElem?_append_left (by simpa using hj)]; rfl⟩
theorem pint_ok (l : List UInt8) (v : Int) (h : Lib.parseIntB 64 l = .ok v) (hl : l.length ≤ 1000) (w : World) :
    Calls Tryz.prog 124 #[.string (bstr l), .int .i64 10, .int .i64 64] w fun e w' => e = .returned (.tuple #[.int .i64 v, .nilIface]) ∧ Below w.heap.size w w' := by
  have e1 : (bstr l).data.toList = l := by simp [bstr]
  refine (Tryz.strconv_ParseInt_10_at64_ok (bstr l) (by rw [bstr_size]; omega) v (by rw [e1]; exact h) w).mono ?_
  rintro e w' ⟨rfl, rfl | ⟨t, rfl⟩⟩
  · exact ⟨rfl, Below.refl _ _⟩
  · exact ⟨rfl, Lib.bytesWorld_below _ _ _⟩
theorem index_calls (l : List UInt8) (c : UInt8) (w : World) :
    Calls Tryz.prog 190 #[.string (bstr l), .string ⟨#[c]⟩] w fun e w' => e = .returned (.int .i64 (Lib.indexByte l c)) ∧ w' = w := by
  have := Tryz.strings_Index_one (bstr l) c w
  rw [bstr_data] at this
  exact this
def bren : Go.Shelf.Ren := ⟨fun | 166 => 53 | 167 => 52 | 240 => 101 | 276 => 144 | n => Tryz.lays169_ren.f n, fun | 4 => 4 | 20 => 20 | 75 => 139 | 80 => 66 | 164 => 239 | n => Tryz.lays169_ren.t n, Tryz.lays169_ren.g⟩
theorem lays166 : Go.Proofs.Lays.n166 Tryz.prog bren := { Tryz.lays169 with
  f166 := Tryz.func53.trans (congrArg some (by kernel_rfl))
  f240 := Tryz.func101.trans (congrArg some (by kernel_rfl))
  f276 := Tryz.func144.trans (congrArg some (by kernel_rfl))
  t4 := Tryz.underlying4
  a4 := Tryz.isAgg4
  z4 := Tryz.sizeOf4
  v4 := Tryz.zeroValue4
  t20 := Tryz.underlying20
  a20 := Tryz.isAgg20
  z20 := Tryz.sizeOf20
  v20 := Tryz.zeroValue20
  t75 := Tryz.underlying139
  a75 := Tryz.isAgg139
  z75 := Tryz.sizeOf139
  v75 := Tryz.zeroValue139
  t164 := Tryz.underlying239
  a164 := Tryz.isAgg239
  z164 := Tryz.sizeOf239
  v164 := Tryz.zeroValue239 }
theorem lays167 : Go.Proofs.Lays.n167 Tryz.prog bren := { lays166 with
  f167 := Tryz.func52.trans (congrArg some (by kernel_rfl))
  t5 := Tryz.underlying5
  a5 := Tryz.isAgg5
  z5 := Tryz.sizeOf5
  v5 := Tryz.zeroValue5 }
theorem extra166 : Builder.Extra Tryz.prog bren := {
  sizeBuilder := by kernel_rfl
  liesBuilder := by kernel_rfl
  t5 := Tryz.underlying5
  a5 := Tryz.isAgg5
  z5 := Tryz.sizeOf5
  v5 := Tryz.zeroValue5
  infoByte := by kernel_rfl
  cellsByte := by kernel_rfl
  sizeByte := by kernel_rfl
  neB5 := by decide }
/-- A builder that holds bytes. -/
abbrev Bld (B b : Nat) (l : List UInt8) (w : World) : Prop := Lib.IsBuilderF 137 5 B b (Lib.byteCells l) w
theorem bcells_len (l : List UInt8) : (Lib.byteCells l).length = l.length := by simp [Lib.byteCells]
theorem bcells_append (a b : List UInt8) : Lib.byteCells (a ++ b) = Lib.byteCells a ++ Lib.byteCells b := by simp [Lib.byteCells]
theorem bld_new (w : World) : Bld w.heap.size w.heap.size [] (w.alloc (.cells #[.pointer none, .slice none 0 0] 137)) :=
  .inl ⟨Nat.le_refl _, .slice none 0 0, heap_alloc_new w _, ⟨rfl, .inl ⟨rfl, rfl⟩⟩, by simp [Value.ownBlock]⟩
theorem bldAt_below {T e : TypeId} {B b : Nat} {p : Value} {bs : List Value} {w w' : World} (h : Lib.BuilderAtF T e B b p bs w) (d : Below w.heap.size w w') : Lib.BuilderAtF T e B b p bs w' := by
  obtain ⟨hB, v, hb, ho, hne⟩ := h
  refine ⟨hB, v, (d.block b (lt_of_block hb)).trans hb, ⟨ho.1, ?_⟩, hne⟩
  rcases ho.2 with h0 | ⟨g, cap, cur, fz, hv, h1, h2, h3⟩
  · exact .inl h0
  · exact .inr ⟨g, cap, cur, fz, hv, h1, (d.block g (lt_of_block h2)).trans h2, h3⟩
theorem bld_below {B b : Nat} {l : List UInt8} {w w' : World} (h : Bld B b l w) (d : Below w.heap.size w w') : Bld B b l w' := h.elim (fun x => .inl (bldAt_below x d)) (fun x => .inr (bldAt_below x d))
theorem strCells_b (l : List UInt8) : Lib.strCells (bstr l) = Lib.byteCells l := by
  unfold Lib.strCells Lib.byteCells
  simp [bstr]
theorem wstr_calls (B b : Nat) (l t : List UInt8) (w : World) (h : Bld B b l w) (hl : l.length + t.length ≤ 100000000000000) (hB : B ≤ w.heap.size) :
    Calls Tryz.prog 53 #[.pointer (some ⟨b, 0, none⟩), .string (bstr t)] w fun e w' => (∃ v, e = .returned v) ∧ Bld B b (l ++ t) w' ∧ Below B w w' := by
  have hz : (bstr t).size = t.length := rfl
  refine (Any.Builder_WriteString_k lays166 extra166 B b (Lib.byteCells l) (bstr t) w h (by rw [bcells_len, hz]; omega) hB).mono ?_
  rintro e w' ⟨rfl, h1, h2, _⟩
  refine ⟨⟨_, rfl⟩, .inr ?_, h2⟩
  rw [bcells_append, ← strCells_b t]
  exact h1
theorem wbyte_calls (B b : Nat) (l : List UInt8) (c : UInt8) (n : Int) (hn : n = (c.toNat : Int)) (w : World) (h : Bld B b l w) (hl : l.length ≤ 100000000000000) (hB : B ≤ w.heap.size) :
    Calls Tryz.prog 52 #[.pointer (some ⟨b, 0, none⟩), .int .u8 n] w fun e w' => e = .returned .nilIface ∧ Bld B b (l ++ [c]) w' ∧ Below B w w' := by
  subst hn
  refine (Any.Builder_WriteByte_k lays167 extra166 B b (Lib.byteCells l) (c.toNat : Int) w h (by rw [bcells_len]; omega) hB).mono ?_
  rintro e w' ⟨rfl, h1, h2, _⟩
  refine ⟨rfl, .inr ?_, h2⟩
  rw [bcells_append]
  exact h1
theorem bstring_calls (B b : Nat) (l : List UInt8) (w : World) (h : Bld B b l w) (hB : B ≤ w.heap.size) :
    Calls Tryz.prog 55 #[.pointer (some ⟨b, 0, none⟩)] w fun e w' => e = .returned (.string (bstr l)) ∧ Below B w w' := by
  refine (Tryz.Builder_String_any_k B b l w h hB).mono ?_
  rintro e w' ⟨rfl, _, h2, _⟩
  exact ⟨rfl, h2⟩
end Go.Proofs.YtendnkklbeiegaaGreatDoor
namespace Go.Proofs.YtendnkklbeiegaaGreatDoor
open Go.RowKit StoreP

def small40 (n : Int) : Prop := 0 ≤ n ∧ n ≤ 1099511627776
theorem words_calls (l : List Int) (A : Option Addr) (c : Nat) (w : World) (base : Nat) (hG : Glob w base) (hb : base ≤ w.heap.size) (hR : RV w A (cI l)) (hl : l.length ≤ 10) (hs : ∀ n ∈ l, small40 n) :
    Calls Tryz.prog 59 #[.slice A l.length c] w fun e w' => e = .returned (.string (bstr (numsT l))) ∧ Below w.heap.size w w' := by
  have b0 := bld_new w
  have B1 : Below w.heap.size w (w.alloc (.cells #[.pointer none, .slice none 0 0] 137)) := (Below.refl _ _).alloc (Nat.le_refl _) _
  go_enter Tryz.func59, Tryz.ntmps59
  go_wp2_with fail
  generalize w.alloc (.cells #[.pointer none, .slice none 0 0] 137) = w1 at *
  go_loopw [8] (fun i wr => ∃ k : Nat, k ≤ l.length ∧ i = .int .i64 (k : Int) ∧ Bld w.heap.size w.heap.size (numsT (l.take k)) wr ∧ Below w.heap.size w wr) (fun i _ => l.length - (intOf i).toNat)
  case atStart => exact ⟨0, by omega, rfl, b0, B1⟩
  case round =>
    clear b0 B1
    obtain ⟨k, hk, rfl, hbd, hB⟩ := hrel
    have hwr := hB.size
    have hGr := hG.bel hB hb
    have hlen : (numsT (l.take k)).length ≤ 140 := by
      have := nums_len (l.take k) fun n hn => hs n (List.mem_of_mem_take hn)
      rw [List.length_take] at this
      omega
    by_cases hlt : k < l.length
    · have dec : decide ((k : Int) < (l.length : Int)) = true := decide_eq_true (by omega)
      have dec' : decide (k < l.length) = true := decide_eq_true hlt
      have hq : (k : Int) < (l.length : Int) := by omega
      obtain ⟨x, hx⟩ : ∃ x, l[k]? = some x := ⟨_, List.getElem?_eq_getElem hlt⟩
      obtain ⟨g, off, rfl, hg, hc⟩ := (hR.below hB) (by intro e; have := cI_len l; rw [e] at this; simp at this; omega)
      have x0 : wr.cell? ⟨g, off + k, none⟩ = some (.int .i64 x) := hc k _ (by simp [cI, intV, hx])
      have hxs := hs x (List.mem_of_getElem? hx)
      have hxl := itoa_13 x hxs.1 hxs.2
      have s1 : IntKind.i64.wrap ((k : Int) + 1) = ((k + 1 : Nat) : Int) := by rw [IntKind.wrap_i64]; omega
      have HT : Hid (l.take (k + 1) = l.take k ++ [x]) := by show _ = _; rw [List.take_add_one, hx]; rfl
      have hx1 : -9223372036854775808 ≤ x ∧ x ≤ 9223372036854775807 := by have := hxs.1; have := hxs.2; omega
      clear hc hR hs hxs
      by_cases hk0 : k = 0
      · subst hk0
        rw [Nat.add_zero] at x0
        have HB := Lib.hid hB
        go_wp2_with fail
        refine (fmt_calls x hx1.1 hx1.2 wr base hGr).mono ?_
        rintro e w2 ⟨rfl, B2⟩
        have b2 := bld_below hbd B2
        go_wp2_with fail
        refine (wstr_calls w.heap.size w.heap.size (numsT (l.take 0)) (Lib.itoa x) w2 b2 (by simp [numsT]; omega) (Nat.le_trans hwr B2.size)).mono ?_
        rintro e w3 ⟨⟨v, rfl⟩, b3, B3⟩
        have HB3 := Lib.hid ((HB.out.trans (B2.mono hwr)).trans B3)
        have Hb3 := Lib.hid b3
        clear B2 B3 b2 b3 hbd
        go_wp2
        go_roundw
        case rel => exact ⟨1, hlt, rfl, by rw [HT.out]; have := Hb3.out; simpa [numsT, restT] using this, HB3.out⟩
        case measure => simp [intOf]; omega
      · have dgt : decide (0 < (k : Int)) = true := decide_eq_true (by omega)
        have dgt' : decide (0 < k) = true := decide_eq_true (by omega)
        have HN : Hid (numsT (l.take (k + 1)) = numsT (l.take k) ++ [32] ++ Lib.itoa x) := by
          show _ = _
          rw [HT.out]
          obtain ⟨a, t, e⟩ : ∃ a t, l.take k = a :: t := by
            cases hq2 : l.take k with
            | nil => exfalso; have := congrArg List.length hq2; rw [List.length_take, List.length_nil] at this; omega
            | cons a t => exact ⟨a, t, rfl⟩
          rw [e]
          have := nums_snoc a t x
          simp at this ⊢
          exact this
        have HB := Lib.hid hB
        clear hB
        go_wp2_with fail
        refine (wbyte_calls w.heap.size w.heap.size (numsT (l.take k)) 32 32 rfl wr hbd (by omega) hwr).mono ?_
        rintro e w2 ⟨rfl, b2, B2⟩
        have hG2 := hGr.below (B2.mono hb)
        have hw2 : w.heap.size ≤ w2.heap.size := Nat.le_trans hwr B2.size
        go_wp2_with fail
        refine (fmt_calls x hx1.1 hx1.2 w2 base hG2).mono ?_
        rintro e w3 ⟨rfl, B3⟩
        have b3 := bld_below b2 B3
        go_wp2_with fail
        refine (wstr_calls w.heap.size w.heap.size (numsT (l.take k) ++ [32]) (Lib.itoa x) w3 b3 (by simp; omega) (Nat.le_trans hw2 B3.size)).mono ?_
        rintro e w4 ⟨⟨v, rfl⟩, b4, B4⟩
        have HB4 := Lib.hid (((HB.out.trans B2).trans (B3.mono hw2)).trans B4)
        have Hb4 := Lib.hid b4
        clear B2 B3 B4 b2 b3 b4 hbd
        go_wp2
        go_roundw
        case rel => exact ⟨k + 1, hlt, rfl, by rw [HN.out]; exact Hb4.out, HB4.out⟩
        case measure => simp [intOf]; omega
    · obtain rfl : k = l.length := by omega
      have dec : decide ((l.length : Int) < (l.length : Int)) = false := decide_eq_false (by omega)
      have dec' : decide (l.length < l.length) = false := decide_eq_false (by omega)
      rw [List.take_length] at hbd
      have HB := Lib.hid hB
      clear hB
      go_wp2_with fail
      refine (bstring_calls w.heap.size w.heap.size (numsT l) wr hbd hwr).mono ?_
      rintro e w2 ⟨rfl, B2⟩
      have HB2 := Lib.hid (HB.out.trans B2)
      clear B2 hbd
      go_wp2
      go_ret
      exact ⟨rfl, HB2.out⟩
end Go.Proofs.YtendnkklbeiegaaGreatDoor
namespace Go.Proofs.YtendnkklbeiegaaGreatDoor
open Go.RowKit StoreP

def okS (x : Slot) : Prop := x.at_ ≤ 1000 ∧ x.len ≤ 1000 ∧ x.mark ≤ 1000000000000
theorem nums_small {n : Nm} {x : Slot} (hn : okN n) (hx : okS x) : ∀ m ∈ x.nums n, small40 m := by
  intro m hm
  obtain ⟨h1, h2⟩ := hn
  obtain ⟨h3, h4, h5⟩ := hx
  simp only [Slot.nums, List.mem_cons, List.not_mem_nil, or_false] at hm
  unfold small40
  rcases hm with rfl | rfl | rfl | rfl | rfl <;> omega
set_option maxRecDepth 100000 in
theorem slotrec_calls (n : Nm) (x : Slot) (hn : okN n) (hx : okS x) (w : World) (base : Nat) (hG : Glob w base) (hb : base ≤ w.heap.size) :
    Calls Tryz.prog 68 #[slotV x, nmV n] w (RetRec w 83 (numsT (x.nums n))) := by
  have hs := nums_small hn hx
  have hlen := nums_len (x.nums n) hs
  unfold slotV nmV
  have k1 := Blk.new w 112 #[.int .i64 (x.at_ : Int), .int .i64 1, .int .i64 (x.len : Int), .int .i64 (x.mark : Int)]
  have k2 := Blk.new (w.alloc (.cells #[.int .i64 (x.at_ : Int), .int .i64 1, .int .i64 (x.len : Int), .int .i64 (x.mark : Int)] 112)) 40 #[.int .i64 (n.1 : Int), .int .i64 (n.2 : Int)]
  have k3 := Blk.new ((w.alloc (.cells #[.int .i64 (x.at_ : Int), .int .i64 1, .int .i64 (x.len : Int), .int .i64 (x.mark : Int)] 112)).alloc (.cells #[.int .i64 (n.1 : Int), .int .i64 (n.2 : Int)] 40)) 107 #[.int .u8 0, .slice none 0 0]
  go_enter Tryz.func68, Tryz.ntmps68
  go_wp2_with fail
  have rv : RV ((((w.alloc (.cells #[.int .i64 (x.at_ : Int), .int .i64 1, .int .i64 (x.len : Int), .int .i64 (x.mark : Int)] 112)).alloc (.cells #[.int .i64 (n.1 : Int), .int .i64 (n.2 : Int)] 40)).alloc (.cells #[.int .u8 0, .slice none 0 0] 107)).alloc (.cells #[.int .i64 (n.1 : Int), .int .i64 (n.2 : Int), .int .i64 (x.at_ : Int), .int .i64 (x.len : Int), .int .i64 (x.mark : Int)] 2)) (some ⟨(((w.alloc (.cells #[.int .i64 (x.at_ : Int), .int .i64 1, .int .i64 (x.len : Int), .int .i64 (x.mark : Int)] 112)).alloc (.cells #[.int .i64 (n.1 : Int), .int .i64 (n.2 : Int)] 40)).alloc (.cells #[.int .u8 0, .slice none 0 0] 107)).heap.size, 0, none⟩) (cI (x.nums n)) := RV.new _ _ _ _
  have k4 := k3.alloc (.cells #[.int .i64 (n.1 : Int), .int .i64 (n.2 : Int), .int .i64 (x.at_ : Int), .int .i64 (x.len : Int), .int .i64 (x.mark : Int)] 2)
  have B4 : Below w.heap.size w ((((w.alloc (.cells #[.int .i64 (x.at_ : Int), .int .i64 1, .int .i64 (x.len : Int), .int .i64 (x.mark : Int)] 112)).alloc (.cells #[.int .i64 (n.1 : Int), .int .i64 (n.2 : Int)] 40)).alloc (.cells #[.int .u8 0, .slice none 0 0] 107)).alloc (.cells #[.int .i64 (n.1 : Int), .int .i64 (n.2 : Int), .int .i64 (x.at_ : Int), .int .i64 (x.len : Int), .int .i64 (x.mark : Int)] 2)) := ((((Below.refl _ w).alloc (Nat.le_refl _) _).alloc (by simp) _).alloc (by simp; omega) _).alloc (by simp; omega) _
  have hz : (((((w.alloc (.cells #[.int .i64 (x.at_ : Int), .int .i64 1, .int .i64 (x.len : Int), .int .i64 (x.mark : Int)] 112)).alloc (.cells #[.int .i64 (n.1 : Int), .int .i64 (n.2 : Int)] 40)).alloc (.cells #[.int .u8 0, .slice none 0 0] 107)).alloc (.cells #[.int .i64 (n.1 : Int), .int .i64 (n.2 : Int), .int .i64 (x.at_ : Int), .int .i64 (x.len : Int), .int .i64 (x.mark : Int)] 2))).heap.size = w.heap.size + 4 := by simp
  simp only [World.size_alloc, Nat.add_assoc, Nat.reduceAdd] at rv k4 ⊢
  clear k1 k2 k3
  revert rv k4 B4 hz
  generalize ((((w.alloc (.cells #[.int .i64 (x.at_ : Int), .int .i64 1, .int .i64 (x.len : Int), .int .i64 (x.mark : Int)] 112)).alloc (.cells #[.int .i64 (n.1 : Int), .int .i64 (n.2 : Int)] 40)).alloc (.cells #[.int .u8 0, .slice none 0 0] 107)).alloc (.cells #[.int .i64 (n.1 : Int), .int .i64 (n.2 : Int), .int .i64 (x.at_ : Int), .int .i64 (x.len : Int), .int .i64 (x.mark : Int)] 2)) = w4
  intro B4 hz rv k4
  refine (words_calls (x.nums n) (some ⟨w.heap.size + 3, 0, none⟩) 5 w4 base (hG.bel B4 hb) (by omega) rv (by simp [Slot.nums]) hs).mono ?_
  rintro e w5 ⟨rfl, B5⟩
  have k5 := k4.below B5 k4.lt
  have B5' := B4.trans (B5.mono B4.size)
  have hz5 := B5.size
  go_wp2_with fail
  refine (record_calls 83 (numsT (x.nums n)) w5 (by have : (x.nums n).length = 5 := rfl; omega)).mono ?_
  rintro e w6 ⟨⟨rk, rA, rc, rb⟩, hk, hbd, rfl, hr, B6⟩
  obtain rfl : rk = 83 := hk
  obtain rfl : rb = numsT (x.nums n) := hbd
  have k6 := k5.below B6 k5.lt
  have B6' := B5'.trans (B6.mono B5'.size)
  have c0 := k6.at_ (i := 0) rfl
  have c1 := k6.at_ (i := 1) rfl
  have z0 := k6.frozen 0
  have z1 := k6.frozen 1
  have bF : Blk ((w6.setCell ⟨w.heap.size + 2, 0, none⟩ (.int .u8 83)).setCell ⟨w.heap.size + 2, 1, none⟩ (.slice rA (numsT (x.nums n)).length rc)) (w.heap.size + 2) 107 #[.int .u8 83, .slice rA (numsT (x.nums n)).length rc] := (k6.set_ 0 _).set_ 1 _
  have HF : Hid (RetRec w 83 (numsT (x.nums n)) (.returned (.agg #[.int .u8 83, .slice rA (numsT (x.nums n)).length rc])) ((w6.setCell ⟨w.heap.size + 2, 0, none⟩ (.int .u8 83)).setCell ⟨w.heap.size + 2, 1, none⟩ (.slice rA (numsT (x.nums n)).length rc))) := by
    refine ⟨⟨83, rA, rc, numsT (x.nums n)⟩, rfl, rfl, rfl, ?_, (B6'.setCell (p := ⟨w.heap.size + 2, 0, none⟩) (Nat.le_add_right _ _) _).setCell (p := ⟨w.heap.size + 2, 1, none⟩) (Nat.le_add_right _ _) _⟩
    refine hr.next (((Kept.refl _ w6).setCell (p := ⟨w.heap.size + 2, 0, none⟩) (.inl (by show w.heap.size + 2 < w5.heap.size; omega)) _).setCell (p := ⟨w.heap.size + 2, 1, none⟩) (.inl (by show w.heap.size + 2 < w5.heap.size; omega)) _) fun j _ hj => ?_
    show j < w5.heap.size
    have hj' : j < w.heap.size := hj
    omega
  clear hr k4 k5 k6 B5 B6 B5' B6' rv
  go_wp2
  refine bodyPost_ret (results_cell_row rfl _ _ (w.heap.size + 2) 107 #[.int .u8 83, .slice rA (numsT (x.nums n)).length rc] (0, 0) _ (by kernel_rfl) bF Tryz.underlying107 (by kernel_rfl) (by kernel_rfl)) rfl ?_
  exact HF.out
end Go.Proofs.YtendnkklbeiegaaGreatDoor
