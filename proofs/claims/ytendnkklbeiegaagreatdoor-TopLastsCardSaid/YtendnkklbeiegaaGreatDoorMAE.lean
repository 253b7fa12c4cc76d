/-
  How a disk lies in memory: its struct, the two rows of pointers to what stands in the sectors, the row of writes that wait, the contents and their bytes.
-/
import Derived.Test.YtendnkklbeiegaaGreatDoorRows
import Derived.Test.YtendnkklbeiegaaGreatDoorMAI
import Derived.Test.YtendnkklbeiegaaGreatDoorMAF
import Derived.Lib.Hide
namespace Go.Proofs.YtendnkklbeiegaaGreatDoor
open Go.RowKit DiskP

/-- All blocks but those that F names are as they were. -/
structure Kept (F : Nat → Prop) (w w' : World) : Prop where
  os : w'.os = w.os
  tape : w'.tape = w.tape
  output : w'.output = w.output
  size : w.heap.size ≤ w'.heap.size
  block : ∀ k, k < w.heap.size → ¬ F k → w'.heap[k]? = w.heap[k]?
section
variable {F G : Nat → Prop} {a b w w' : World}
theorem Kept.refl (F : Nat → Prop) (w : World) : Kept F w w := ⟨rfl, rfl, rfl, Nat.le_refl _, fun _ _ _ => rfl⟩
theorem Kept.of_below (h : Below w.heap.size w w') (F : Nat → Prop) : Kept F w w' := ⟨h.os, h.tape, h.output, h.size, fun k hk _ => h.block k hk⟩
theorem Kept.mono (h : Kept F w w') (hf : ∀ k, k < w.heap.size → F k → G k) : Kept G w w' := ⟨h.os, h.tape, h.output, h.size, fun k hk hg => h.block k hk fun hF => hg (hf k hk hF)⟩
theorem Kept.trans (h : Kept F a b) (k : Kept F b w) : Kept F a w :=
  ⟨k.os.trans h.os, k.tape.trans h.tape, k.output.trans h.output, Nat.le_trans h.size k.size, fun i hi hF => (k.block i (Nat.lt_of_lt_of_le hi h.size) hF).trans (h.block i hi hF)⟩
theorem Kept.drew (h : Kept F a w) : Kept F a w.drew := ⟨h.os, h.tape, h.output, h.size, h.block⟩
theorem Kept.alloc (h : Kept F a w) (o : Obj) : Kept F a (w.alloc o) :=
  ⟨h.os, h.tape, h.output, Nat.le_trans h.size (by simp), fun i hi hF => (Below.heap_alloc w o i (Nat.lt_of_lt_of_le hi h.size)).trans (h.block i hi hF)⟩
theorem Kept.setCell (h : Kept F a w) {p : Addr} (hp : F p.block ∨ a.heap.size ≤ p.block) (u : Value) : Kept F a (w.setCell p u) :=
  ⟨h.os, h.tape, h.output, by simpa [World.setCell] using h.size, fun i hi hF => (heap_setCell_other w p i u (by
    rintro rfl
    rcases hp with hp | hp
    · exact hF hp
    · omega)).trans (h.block i hi hF)⟩
theorem Kept.grown {row : Option Nat} (h : Kept F a w) (hg : w.grownBy w' row) (hr : ∀ k, row = some k → F k ∨ a.heap.size ≤ k) : Kept F a w' :=
  ⟨hg.os.trans h.os, hg.tape.trans h.tape, hg.output.trans h.output, Nat.le_trans h.size hg.size, fun i hi hF =>
    (hg.block i (Nat.lt_of_lt_of_le hi h.size) (fun e => by
      rcases hr i e.symm with h | h
      · exact hF h
      · omega)).trans (h.block i hi hF)⟩
theorem Kept.below {B : Nat} (h : Kept F w w') (hF : ∀ k, k < w.heap.size → F k → B ≤ k) (hB : B ≤ w.heap.size) : Below B w w' :=
  ⟨h.os, h.tape, h.output, h.size, fun k hk => h.block k (Nat.lt_of_lt_of_le hk hB) fun hf => by have := hF k (Nat.lt_of_lt_of_le hk hB) hf; omega⟩
end
theorem own_frame {w w' : World} {base : Nat} {e : TypeId} {size n : Nat} {v : Value} {xs : List Value} (h : w.ownsRow base e size v n xs) (hb : ∀ k, v.ownBlock = some k → w'.heap[k]? = w.heap[k]?) : w'.ownsRow base e size v n xs := by
  refine ⟨h.1, ?_⟩
  rcases h.2 with h0 | ⟨g, cap, cur, rfl, h1, h2, h3⟩
  · exact .inl h0
  · exact .inr ⟨g, cap, cur, rfl, h1, (hb g rfl).trans h2, h3⟩

/-- A pointer to a content, or nil. -/
def ptrV : Option Nat → Value
  | none => .pointer none
  | some c => .pointer (some ⟨c, 0, none⟩)
/-- Where all of a disk lies. -/
structure Lay where
  D : Nat
  L : Nat
  T : Nat
  size : Nat
  lp : List (Option Nat)
  wp : List (Nat × Nat)
  wv : Value
  off : Bool
  sect : Nat → Sect
  bv : Nat → Value
def someW (wp : List (Nat × Nat)) : List (Nat × Option Nat) := wp.map fun x => (x.1, some x.2)
def Lay.tp (y : Lay) : List (Option Nat) := applyW y.lp (someW y.wp)
def Lay.ids (y : Lay) (c : Nat) : Prop := some c ∈ y.lp ∨ ∃ n, (n, c) ∈ y.wp
def Lay.dcells (y : Lay) : Array Value :=
  #[.int .i64 (y.size : Int), .slice (some ⟨y.L, 0, none⟩) y.lp.length y.lp.length, .slice (some ⟨y.T, 0, none⟩) y.lp.length y.lp.length, y.wv, .bool y.off]
def wcells (wp : List (Nat × Nat)) : List Value := wp.flatMap fun x => [.int .i64 (x.1 : Int), .pointer (some ⟨x.2, 0, none⟩)]
def BytesOK (w : World) (base size : Nat) (v : Value) : Option (List UInt8) → Prop
  | none => v = .slice none 0 0
  | some l => l.length = size ∧ w.ownsRow base 5 1 v size (cB l)
def Lay.foot (y : Lay) (k : Nat) : Prop := k = y.D ∨ k = y.L ∨ k = y.T ∨ y.wv.ownBlock = some k ∨ y.ids k ∨ ∃ c, y.ids c ∧ (y.bv c).ownBlock = some k
structure DiskOK (w : World) (base : Nat) (y : Lay) : Prop where
  dk : Blk w y.D 85 y.dcells
  lk : Blk w y.L 86 (y.lp.map ptrV).toArray
  tk : Blk w y.T 86 (y.tp.map ptrV).toArray
  wk : w.ownsRow base 88 2 y.wv y.wp.length (wcells y.wp)
  ck : ∀ c, y.ids c → Blk w c 90 #[y.bv c, .bool (y.sect c).bytes.isNone, .bool (y.sect c).rot]
  bk : ∀ c, y.ids c → BytesOK w base y.size (y.bv c) (y.sect c).bytes
  bD : base ≤ y.D
  bL : base ≤ y.L
  bT : base ≤ y.T
  bc : ∀ c, y.ids c → base ≤ c
  n1 : ∀ (i j c : Nat), y.lp[i]? = some (some c) → y.lp[j]? = some (some c) → i = j
  n2 : ∀ (i j n m c : Nat), y.wp[i]? = some (n, c) → y.wp[j]? = some (m, c) → i = j
  n3 : ∀ (c n : Nat), some c ∈ y.lp → (n, c) ∈ y.wp → False
  nb : ∀ (c c' k : Nat), y.ids c → y.ids c' → (y.bv c).ownBlock = some k → (y.bv c').ownBlock = some k → c = c'
  lt : y.L ≠ y.T
  wr : ∀ (n c : Nat), (n, c) ∈ y.wp → n < y.lp.length
  s1 : 16 ≤ y.size
  s2 : y.size ≤ 4096
  l1 : 1 ≤ y.lp.length
  l2 : y.lp.length ≤ 65536
/-- What it is, in plain words. -/
def ptrS (size : Nat) (sect : Nat → Sect) : Option Nat → Sect
  | none => zeroS size
  | some c => sect c
def Lay.abs (y : Lay) : Dsk := ⟨y.size, y.lp.map (ptrS y.size y.sect), y.wp.map fun x => (x.1, y.sect x.2), y.off⟩

theorem BytesOK.frame {w w' : World} {base size : Nat} {v : Value} {o : Option (List UInt8)} (h : BytesOK w base size v o) (hb : ∀ k, v.ownBlock = some k → w'.heap[k]? = w.heap[k]?) : BytesOK w' base size v o := by
  cases o with
  | none => exact h
  | some l => exact ⟨h.1, own_frame h.2 hb⟩
/-- Nothing of a disk turns where its blocks don't. -/
theorem DiskOK.frame {w w' : World} {base : Nat} {y : Lay} (h : DiskOK w base y) (hb : ∀ k, y.foot k → w'.heap[k]? = w.heap[k]?) : DiskOK w' base y :=
  { h with
    dk := (hb _ (.inl rfl)).trans h.dk
    lk := (hb _ (.inr (.inl rfl))).trans h.lk
    tk := (hb _ (.inr (.inr (.inl rfl)))).trans h.tk
    wk := own_frame h.wk fun k hk => hb k (.inr (.inr (.inr (.inl hk))))
    ck := fun c hc => (hb c (.inr (.inr (.inr (.inr (.inl hc)))))).trans (h.ck c hc)
    bk := fun c hc => (h.bk c hc).frame fun k hk => hb k (.inr (.inr (.inr (.inr (.inr ⟨c, hc, hk⟩))))) }
theorem own_lt {w : World} {base : Nat} {e : TypeId} {size n : Nat} {v : Value} {xs : List Value} (h : w.ownsRow base e size v n xs) {k : Nat} (hk : v.ownBlock = some k) : base ≤ k ∧ k < w.heap.size := h.lt k hk
theorem BytesOK.lt {w : World} {base size : Nat} {v : Value} {o : Option (List UInt8)} (h : BytesOK w base size v o) {k : Nat} (hk : v.ownBlock = some k) : base ≤ k ∧ k < w.heap.size := by
  cases o with
  | none => unfold BytesOK at h; rw [h] at hk; cases hk
  | some l => exact own_lt h.2 hk
theorem DiskOK.foot_lt {w : World} {base : Nat} {y : Lay} (h : DiskOK w base y) {k : Nat} (hk : y.foot k) : base ≤ k ∧ k < w.heap.size := by
  rcases hk with rfl | rfl | rfl | hk | hk | ⟨c, hc, hk⟩
  · exact ⟨h.bD, h.dk.lt⟩
  · exact ⟨h.bL, h.lk.lt⟩
  · exact ⟨h.bT, h.tk.lt⟩
  · exact own_lt h.wk hk
  · exact ⟨h.bc k hk, (h.ck k hk).lt⟩
  · exact (h.bk c hc).lt hk
theorem DiskOK.below {w w' : World} {base : Nat} {y : Lay} (h : DiskOK w base y) (hb : Below w.heap.size w w') : DiskOK w' base y := h.frame fun k hk => hb.block k (h.foot_lt hk).2
theorem DiskOK.kept {w w' : World} {base : Nat} {y : Lay} {F : Nat → Prop} (h : DiskOK w base y) (hb : Kept F w w') (hF : ∀ k, y.foot k → ¬ F k) : DiskOK w' base y := h.frame fun k hk => hb.block k (h.foot_lt hk).2 (hF k hk)
theorem abs_told (y : Lay) : y.abs.told = y.tp.map (ptrS y.size y.sect) := by
  show applyW (y.lp.map (ptrS y.size y.sect)) (y.wp.map fun x => (x.1, y.sect x.2)) = (applyW y.lp (someW y.wp)).map (ptrS y.size y.sect)
  rw [← applyW_map]
  congr 1
  simp [someW, ptrS]
theorem tp_len (y : Lay) : y.tp.length = y.lp.length := applyW_length _ _
theorem tp_ids (y : Lay) {c : Nat} (h : some c ∈ y.tp) : y.ids c := by
  have : ∀ (l : List (Option Nat)) (ws : List (Nat × Nat)), some c ∈ applyW l (someW ws) → some c ∈ l ∨ ∃ n, (n, c) ∈ ws := by
    intro l ws
    induction ws generalizing l with
    | nil => intro h; exact .inl h
    | cons x ws ih =>
      intro h
      rcases ih (l.set x.1 (some x.2)) h with h | ⟨n, h⟩
      · rcases List.mem_or_eq_of_mem_set h with h | h
        · exact .inl h
        · injection h with h; exact .inr ⟨x.1, by rw [h]; simp⟩
      · exact .inr ⟨n, by simp [h]⟩
  exact this _ _ h
end Go.Proofs.YtendnkklbeiegaaGreatDoor
namespace Go.Proofs.YtendnkklbeiegaaGreatDoor
open Go.RowKit SumP

/-- A uint32 as the walk carries it. -/
def U (x : BitVec 32) : Int := (x.toNat : Int)
theorem U_xor (x y : BitVec 32) : bits .xor .u32 (U x) (U y) = U (x ^^^ y) := by
  unfold U; rw [u32_xor_nat _ _ x.isLt y.isLt, BitVec.toNat_xor]
theorem U_and15 (x : BitVec 32) : bits .and .u32 (U x) 15 = ((nib x : Nat) : Int) := by
  have h := u32_and_nat x.toNat 15 x.isLt (by decide)
  rw [show (15 : Int) = ((15 : Nat) : Int) from rfl]
  unfold U; rw [h]
  have e : x.toNat &&& 15 = x.toNat % 16 := Nat.and_two_pow_sub_one_eq_mod x.toNat 4
  rw [e]; rfl
theorem U_div16 (x : BitVec 32) : U x / (16 : Int) = U (x >>> 4) := by
  unfold U; rw [BitVec.toNat_ushiftRight, Nat.shiftRight_eq_div_pow]; omega
theorem nib_lt_int (x : BitVec 32) : (((nib x : Nat) : Int) < 16) = True := by have := nib_lt x; simp; omega
theorem U_xor_byte (x : BitVec 32) (c : UInt8) : bits .xor .u32 (U x) (c.toNat : Int) = U (x ^^^ bv c) := by
  have hc : c.toNat < 256 := c.toNat_lt
  have e : (c.toNat : Int) = U (bv c) := by
    unfold U bv; rw [BitVec.toNat_ofNat, Nat.mod_eq_of_lt (by omega)]
  rw [e, U_xor]
theorem U_not (x : BitVec 32) : bits .xor .u32 (U x) 4294967295 = U (~~~ x) := by
  have e : (4294967295 : Int) = U (BitVec.allOnes 32) := by decide
  rw [e, U_xor, BitVec.xor_allOnes]
theorem U_not' (x : BitVec 32) : bits .xor .u32 IntKind.u32.max (U x) = U (~~~ x) := by
  have e : IntKind.u32.max = U (BitVec.allOnes 32) := by decide
  rw [e, U_xor, BitVec.xor_comm, BitVec.xor_allOnes]
attribute [local go_sem] U_not' U_xor U_and15 U_div16 U_xor_byte nib_lt_int U_not

/-- The table of sixteen lies as the text lays it. -/
def Tab (w : World) : Prop := ∀ x : BitVec 32, w.cell? ⟨2, nib x, none⟩ = some (.int .u32 (U (tab x)))

theorem eight_calls (s : BitVec 32) (w : World) (hT : Tab w) :
    Calls Tryz.prog 178 #[.int .u32 (U s)] w fun e w' => e = .returned (.int .u32 (U (eight s))) ∧ w = w' := by
  have h := hT
  unfold Tab at h
  have HE := Lib.hid (eight_by s)
  go_enter Tryz.func178, Tryz.ntmps178
  go_wp2
  go_ret
  exact ⟨by rw [HE.out]; rfl, rfl⟩

theorem more_calls (s : BitVec 32) (l : List UInt8) (A : Option Addr) (cap : Nat) (w : World) (hT : Tab w) (hl : l.length ≤ 9223372036854775807) (hR : RB w A l) :
    Calls Tryz.prog 150 #[.int .u32 (U s), .slice A l.length cap] w fun e w' => e = .returned (.int .u32 (U (more s l))) ∧ w = w' := by
  go_enter Tryz.func150, Tryz.ntmps150
  go_wp2
  go_loop [5, 12] (fun x i => ∃ k : Nat, k ≤ l.length ∧ i = .int .i64 k ∧ x = .int .u32 (U (raw (~~~ s) (l.take k)))) (fun _ i => l.length - (intOf i).toNat)
  case atStart => exact ⟨0, by omega, rfl, rfl⟩
  case round =>
    obtain ⟨k, hk, rfl, rfl⟩ := hrel
    by_cases hlt : k < l.length
    · obtain ⟨b, off, rfl, hb, hcell⟩ := hR.at_ hlt
      have HS : Hid (raw (~~~ s) (l.take (k + 1)) = upd (raw (~~~ s) (l.take k)) l[k]) := by
        rw [List.take_succ_eq_append_getElem hlt, raw_append]; rfl
      generalize raw (~~~ s) (l.take k) = x at *
      have hc : l[k].toNat < 256 := l[k].toNat_lt
      generalize l[k] = c at *
      go_wp2_with (go_at_call 178; refine (eight_calls _ _ hT).mono ?_; rintro e w' ⟨rfl, rfl⟩)
      go_round
      case rel => exact ⟨k + 1, by omega, by go_num, by rw [HS.out]; rfl⟩
      case measure => simp [intOf]; omega
    · obtain rfl : k = l.length := by omega
      rw [List.take_length]
      go_wp2
      go_ret
      exact ⟨rfl, rfl⟩

theorem of_calls (l : List UInt8) (A : Option Addr) (cap : Nat) (w : World) (hT : Tab w) (hl : l.length ≤ 9223372036854775807) (hR : RB w A l) :
    Calls Tryz.prog 113 #[.slice A l.length cap] w fun e w' => e = .returned (.int .u32 (U (more 0#32 l))) ∧ w = w' := by
  go_enter Tryz.func113, Tryz.ntmps113
  go_wp2_with (go_at_call 150; refine (more_calls 0#32 l A cap _ hT hl hR).mono ?_; rintro e w' ⟨rfl, rfl⟩)
  go_ret
  exact ⟨rfl, rfl⟩
end Go.Proofs.YtendnkklbeiegaaGreatDoor
