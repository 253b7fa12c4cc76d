/-
  The walks of package sum's inner functions and of the document's: what each computes, by SumPlain's words.
-/
import Derived.Test.YtpojlchikaffhaaDoorRows
import Derived.Test.YtpojlchikaffhaaDoorJMem
import Derived.Lib.Hide
import Derived.Test.YtpojlchikaffhaaDoorJDisk
import Derived.Deep.RegionHeld
import Derived.IntWalk
namespace Go.Proofs.YtpojlchikaffhaaDoor
open Go.RowKit SumP

/-- A uint32 as the walk carries it. -/
def U (x : BitVec 32) : Int := (x.toNat : Int)
theorem U_lo (x : BitVec 32) : 0 ≤ U x := Int.natCast_nonneg _
theorem U_hi (x : BitVec 32) : U x < 4294967296 := by have := x.isLt; unfold U; omega
theorem U_inj {x y : BitVec 32} (h : U x = U y) : x = y := by
  apply BitVec.eq_of_toNat_eq; unfold U at h; omega
theorem U_beq (x y : BitVec 32) : (U x == U y) = (x == y) := by
  rw [Bool.eq_iff_iff]; simp only [beq_iff_eq]
  exact ⟨U_inj, fun h => by rw [h]⟩
theorem U_xor (x y : BitVec 32) : bits .xor .u32 (U x) (U y) = U (x ^^^ y) := by
  unfold U; rw [u32_xor_nat _ _ x.isLt y.isLt, BitVec.toNat_xor]
theorem U_and15 (x : BitVec 32) : bits .and .u32 (U x) 15 = ((nib x : Nat) : Int) := by
  have h := u32_and_nat x.toNat 15 x.isLt (by decide)
  rw [show (15 : Int) = ((15 : Nat) : Int) from rfl]
  unfold U; rw [h]
  have e : x.toNat &&& 15 = x.toNat % 16 := Nat.and_two_pow_sub_one_eq_mod x.toNat 4
  rw [e]; rfl
theorem U_div16 (x : BitVec 32) : U x / (16 : Int) = U (x >>> 4) := by
  unfold U; rw [BitVec.toNat_ushiftRight, Nat.shiftRight_eq_div_pow]; omega
theorem nib_lt_int (x : BitVec 32) : (((nib x : Nat) : Int) < 16) = True := by have := nib_lt x; simp; omega
theorem U_xor_byte (x : BitVec 32) (c : UInt8) : bits .xor .u32 (U x) (c.toNat : Int) = U (x ^^^ bv c) := by
  have hc : c.toNat < 256 := c.toNat_lt
  have e : (c.toNat : Int) = U (bv c) := by
    unfold U bv; rw [BitVec.toNat_ofNat, Nat.mod_eq_of_lt (by omega)]
  rw [e, U_xor]
theorem U_not (x : BitVec 32) : bits .xor .u32 (U x) 4294967295 = U (~~~ x) := by
  have e : (4294967295 : Int) = U (BitVec.allOnes 32) := by decide
  rw [e, U_xor, BitVec.xor_allOnes]
theorem U_not' (x : BitVec 32) : bits .xor .u32 IntKind.u32.max (U x) = U (~~~ x) := by
  have e : IntKind.u32.max = U (BitVec.allOnes 32) := by decide
  rw [e, U_xor, BitVec.xor_comm, BitVec.xor_allOnes]
attribute [local go_sem] U_not' U_xor U_and15 U_div16 U_xor_byte nib_lt_int U_not

/-- The table of sixteen lies as the text lays it. -/
def Tab (w : World) : Prop := ∀ x : BitVec 32, w.cell? ⟨0, nib x, none⟩ = some (.int .u32 (U (tab x)))

theorem eight_calls (s : BitVec 32) (w : World) (hT : Tab w) :
    Calls Tryd.prog 59 #[.int .u32 (U s)] w fun e w' => e = .returned (.int .u32 (U (eight s))) ∧ w = w' := by
  have h := hT
  unfold Tab at h
  have HE := Lib.hid (eight_by s)
  go_enter Tryd.func59, Tryd.ntmps59
  go_wp2
  go_ret
  exact ⟨by rw [HE.out]; rfl, rfl⟩

theorem more_calls (s : BitVec 32) (l : List UInt8) (A : Option Addr) (cap : Nat) (w : World) (hT : Tab w) (hl : l.length ≤ 9223372036854775807) (hR : RB w A l) :
    Calls Tryd.prog 54 #[.int .u32 (U s), .slice A l.length cap] w fun e w' => e = .returned (.int .u32 (U (more s l))) ∧ w = w' := by
  go_enter Tryd.func54, Tryd.ntmps54
  go_wp2
  go_loop [5, 12] (fun x i => ∃ k : Nat, k ≤ l.length ∧ i = .int .i64 k ∧ x = .int .u32 (U (raw (~~~ s) (l.take k)))) (fun _ i => l.length - (intOf i).toNat)
  case atStart => exact ⟨0, by omega, rfl, rfl⟩
  case round =>
    obtain ⟨k, hk, rfl, rfl⟩ := hrel
    by_cases hlt : k < l.length
    · obtain ⟨b, off, rfl, hb, hcell⟩ := hR.at_ hlt
      have HS : Hid (raw (~~~ s) (l.take (k + 1)) = upd (raw (~~~ s) (l.take k)) l[k]) := by
        rw [List.take_succ_eq_append_getElem hlt, raw_append]; rfl
      generalize raw (~~~ s) (l.take k) = x at *
      have hc : l[k].toNat < 256 := l[k].toNat_lt
      generalize l[k] = c at *
      go_wp2_with (go_at_call 59; refine (eight_calls _ _ hT).mono ?_; rintro e w' ⟨rfl, rfl⟩)
      go_round
      case rel => exact ⟨k + 1, by omega, by go_num, by rw [HS.out]; rfl⟩
      case measure => simp [intOf]; omega
    · obtain rfl : k = l.length := by omega
      rw [List.take_length]
      go_wp2
      go_ret
      exact ⟨rfl, rfl⟩

theorem of_calls (l : List UInt8) (A : Option Addr) (cap : Nat) (w : World) (hT : Tab w) (hl : l.length ≤ 9223372036854775807) (hR : RB w A l) :
    Calls Tryd.prog 49 #[.slice A l.length cap] w fun e w' => e = .returned (.int .u32 (U (more 0#32 l))) ∧ w = w' := by
  go_enter Tryd.func49, Tryd.ntmps49
  go_wp2_with (go_at_call 54; refine (more_calls 0#32 l A cap _ hT hl hR).mono ?_; rintro e w' ⟨rfl, rfl⟩)
  go_ret
  exact ⟨rfl, rfl⟩
end Go.Proofs.YtpojlchikaffhaaDoor
namespace Go.Proofs.YtpojlchikaffhaaDoor
open Go.RowKit DiskP SumP PageP

theorem pneed_calls (size bytes : Int) (w : World) : Calls Tryd.prog 44 #[.int .i64 size, .int .i64 bytes] w fun e w' => e = .returned (.int .i64 (need size bytes)) ∧ w = w' := by
  by_cases h1 : size < 19
  · have HE : Hid (need size bytes = 0) := if_pos (.inl h1)
    have d1 : decide (size < 19) = true := by simpa using h1
    go_enter Tryd.func44, Tryd.ntmps44
    go_wp2
    go_ret
    exact ⟨by rw [HE.out]; rfl, rfl⟩
  have d1 : decide (size < 19) = false := by simpa using h1
  by_cases h2 : 4096 < size
  · have HE : Hid (need size bytes = 0) := if_pos (.inr (.inl h2))
    have d2 : decide (4096 < size) = true := by simpa using h2
    go_enter Tryd.func44, Tryd.ntmps44
    go_wp2
    go_ret
    exact ⟨by rw [HE.out]; rfl, rfl⟩
  have d2 : decide (4096 < size) = false := by simpa using h2
  by_cases h3 : bytes < 0
  · have HE : Hid (need size bytes = 0) := if_pos (.inr (.inr (.inl h3)))
    have d3 : decide (bytes < 0) = true := by simpa using h3
    go_enter Tryd.func44, Tryd.ntmps44
    go_wp2
    go_ret
    exact ⟨by rw [HE.out]; rfl, rfl⟩
  have d3 : decide (bytes < 0) = false := by simpa using h3
  by_cases h4 : 1073741824 < bytes
  · have HE : Hid (need size bytes = 0) := if_pos (.inr (.inr (.inr h4)))
    have d4 : decide (1073741824 < bytes) = true := by simpa using h4
    go_enter Tryd.func44, Tryd.ntmps44
    go_wp2
    go_ret
    exact ⟨by rw [HE.out]; rfl, rfl⟩
  have d4 : decide (1073741824 < bytes) = false := by simpa using h4
  by_cases h5 : (bytes + (size - 18) - 1) / (size - 18) < 1
  · have HE : Hid (need size bytes = 1) := by show _ = _; unfold need; rw [if_neg (by omega), if_pos h5]
    go_enter Tryd.func44, Tryd.ntmps44
    go_wp2
    go_ret
    exact ⟨by rw [HE.out]; rfl, rfl⟩
  · have HE : Hid (need size bytes = (bytes + (size - 18) - 1) / (size - 18)) := by show _ = _; unfold need; rw [if_neg (by omega), if_neg h5]
    go_enter Tryd.func44, Tryd.ntmps44
    go_wp2
    go_ret
    exact ⟨by rw [HE.out]; rfl, rfl⟩
theorem plain_calls (l : List UInt8) (A : Option Addr) (cap : Nat) (w : World) (hR : RB w A l) (hl : l.length ≤ 9223372036854775807) :
    Calls Tryd.prog 57 #[.slice A l.length cap] w fun e w' => e = .returned (.bool (plainB l)) ∧ w = w' := by
  go_enter Tryd.func57, Tryd.ntmps57
  go_wp2
  go_loop [4, 7] (fun _ i => ∃ k : Nat, k ≤ l.length ∧ i = .int .i64 k ∧ plainB (l.take k) = true) (fun _ i => l.length - (intOf i).toNat)
  case atStart => exact ⟨0, by omega, rfl, rfl⟩
  case round =>
    obtain ⟨k, hk, rfl, hp⟩ := hrel
    by_cases hlt : k < l.length
    · obtain ⟨b, off, rfl, hb, hc⟩ := RB.at_ hR hlt
      have HT : Hid (plainB (l.take (k + 1)) = (l[k] == 0)) := by show _ = _; unfold plainB at hp ⊢; rw [List.take_succ_eq_append_getElem hlt, List.all_append, hp]; simp
      have HD : Hid (l = l.take k ++ l[k] :: l.drop (k + 1)) := by show _ = _; rw [List.getElem_cons_drop]; exact (List.take_append_drop k l).symm
      have hdec : decide ((k : Int) < (l.length : Int)) = true := by simp; omega
      generalize l[k] = c at *
      have HP := Lib.hid hp
      clear hp
      by_cases hz : c = 0
      · subst hz
        have hc' : w.cell? ⟨b, off + k, none⟩ = some (.int .u8 0) := hc
        clear hc
        go_wp2
        go_round
        case rel => exact ⟨k + 1, by omega, by go_num, by rw [HT.out]; rfl⟩
        case measure => simp [intOf]; omega
      · have hz1 : ((c.toNat : Int) != 0) = true := by
          have : ¬ c.toNat = 0 := fun e => hz (by rw [← UInt8.toNat_inj, e]; rfl)
          simp; omega
        have HF : Hid (plainB l = false) := by
          show _ = _
          rw [HD.out]
          unfold plainB
          simp [hz]
        clear HD HT
        go_wp2
        go_ret
        exact ⟨by rw [HF.out]; rfl, rfl⟩
    · obtain rfl : k = l.length := by omega
      rw [List.take_length] at hp
      have HP := Lib.hid hp
      clear hp
      go_wp2
      go_ret
      exact ⟨by rw [HP.out]; rfl, rfl⟩
end Go.Proofs.YtpojlchikaffhaaDoor
namespace Go.Proofs.YtpojlchikaffhaaDoor
open Go.RowKit DiskP SumP PageP

theorem or_byte (n : Nat) (c : UInt8) (hn : n < 72057594037927936) : bits .or .u64 ((n : Int) * 256) (c.toNat : Int) = ((n * 256 + c.toNat : Nat) : Int) := by
  have hc := c.toNat_lt
  have e : (n : Int) * 256 = ((n * 256 : Nat) : Int) := by simp
  rw [e, u64_or_nat _ _ (by omega) (by omega)]
  congr 1
  have h := Nat.shiftLeft_add_eq_or_of_lt (b := c.toNat) (i := 8) hc n
  rw [Nat.shiftLeft_eq] at h
  exact h.symm
theorem shift_byte (N m k : Nat) : ((N : Int) / 2 ^ (8 * (m - 1 - k)) % 256) = ((UInt8.ofNat (N / 256 ^ (m - 1 - k))).toNat : Int) := by
  rw [UInt8.toNat_ofNat', show (256 : Nat) = 2 ^ 8 from rfl, ← Nat.pow_mul]
  simp
theorem number_calls (l : List UInt8) (A : Option Addr) (cap : Nat) (w : World) (hR : RB w A l) (hl : l.length ≤ 8) :
    Calls Tryd.prog 60 #[.slice A l.length cap] w fun e w' => e = .returned (.int .u64 ((beN l : Nat) : Int)) ∧ w = w' := by
  go_enter Tryd.func60, Tryd.ntmps60
  go_wp2
  go_loop [3, 5, 8] (fun n _ i => ∃ k : Nat, k ≤ l.length ∧ i = .int .i64 k ∧ n = .int .u64 ((beN (l.take k) : Nat) : Int)) (fun _ _ i => l.length - (intOf i).toNat)
  case atStart => exact ⟨0, by omega, rfl, rfl⟩
  case round =>
    obtain ⟨k, hk, rfl, rfl⟩ := hrel
    by_cases hlt : k < l.length
    · obtain ⟨b, off, rfl, hb, hc⟩ := RB.at_ hR hlt
      have HT : Hid (beN (l.take (k + 1)) = beN (l.take k) * 256 + (l[k]).toNat) := by show _ = _; rw [List.take_succ_eq_append_getElem hlt, beN_snoc]
      have hB : beN (l.take k) < 72057594037927936 := by
        have h1 := beN_lt (l.take k)
        have h2 : 256 ^ (l.take k).length ≤ 256 ^ 7 := Nat.pow_le_pow_right (by omega) (by simp; omega)
        have h3 : (256 : Nat) ^ 7 = 72057594037927936 := rfl
        omega
      have hdec : decide ((k : Int) < (l.length : Int)) = true := by simp; omega
      generalize l[k] = c at *
      generalize beN (l.take k) = n at *
      have hcl := c.toNat_lt
      go_wp2
      go_round
      case rel => exact ⟨k + 1, by omega, by go_num, by rw [HT.out, or_byte n c hB]⟩
      case measure => simp [intOf]; omega
    · obtain rfl : k = l.length := by omega
      go_wp2
      go_ret
      exact ⟨rfl, rfl⟩
theorem cB_set (l : List UInt8) (i : Nat) (c : UInt8) : (cB l).toArray.setIfInBounds i (.int .u8 (c.toNat : Int)) = (cB (l.set i c)).toArray := by simp [cB, byteV]
theorem cB_cell {w : World} {g : Nat} {t : TypeId} {l : List UInt8} (h : Blk w g t (cB l).toArray) {i : Nat} {c : UInt8} (hc : l[i]? = some c) : w.cell? ⟨g, i, none⟩ = some (.int .u8 (c.toNat : Int)) := h.at_ (by simp [cB, hc, byteV])
/-- Its name is bput: put of package page writes a number into bytes. -/
theorem bput_calls (l : List UInt8) (g o m cap : Nat) (N : Nat) (w : World) (bk : Blk w g 5 (cB l).toArray) (_hl : l.length ≤ 4096) (hm : o + m ≤ l.length) (hm8 : m ≤ 8) (_hN : N < 18446744073709551616) :
    Calls Tryd.prog 48 #[.slice (some ⟨g, o, none⟩) m cap, .int .u64 (N : Int)] w fun e w' => e = .returned (.tuple #[]) ∧ Blk w' g 5 (cB (spl l o (be m N))).toArray ∧ Kept (fun k => k = g) w w' := by
  go_enter Tryd.func48, Tryd.ntmps48
  go_wp2
  go_loopw [4, 7] (fun _ i wr => ∃ k : Nat, k ≤ m ∧ i = .int .i64 k ∧ Blk wr g 5 (cB (spl l o ((be m N).take k))).toArray ∧ Kept (fun k => k = g) w wr) (fun _ i _ => m - (intOf i).toNat)
  case atStart => exact ⟨0, by omega, rfl, by rw [List.take_zero, spl_nil]; exact bk, Kept.refl _ _⟩
  case round =>
    obtain ⟨k, hk, rfl, ow, kp⟩ := hrel
    by_cases hlt : k < m
    · have hbl := be_len m N
      have hgt := be_get m N k hlt
      have hlen : (spl l o ((be m N).take k)).length = l.length := spl_len _ _ _ (by simp [hbl]; omega)
      obtain ⟨c, hc⟩ : ∃ c, (spl l o ((be m N).take k))[o + k]? = some c := ⟨_, List.getElem?_eq_getElem (by rw [hlen]; omega)⟩
      have hcell := cB_cell ow hc
      have hz := ow.frozen (o + k)
      have HST : Hid (∀ u : Int, u = ((UInt8.ofNat (N / 256 ^ (m - 1 - k))).toNat : Int) → Blk (wr.setCell ⟨g, o + k, none⟩ (.int .u8 u)) g 5 (cB (spl l o ((be m N).take (k + 1)))).toArray) := by
        show ∀ u : Int, _ → _
        rintro u rfl
        have := ow.set_ (o + k) (.int .u8 ((UInt8.ofNat (N / 256 ^ (m - 1 - k))).toNat : Int))
        rw [cB_set, spl_step l o k (be m N) _ hgt (by rw [hbl]; exact hm)] at this
        exact this
      have hdec : decide ((k : Int) < (m : Int)) = true := by simp; omega
      clear hbl hgt hlen hc ow
      go_wp2
      go_roundw
      case rel => exact ⟨k + 1, by omega, by go_num, HST.out _ (shift_byte N m k), kp.setCell (.inl rfl) _⟩
      case measure => simp [intOf]; omega
    · obtain rfl : k = m := by omega
      have e : (be k N).take k = be k N := List.take_of_length_le (by rw [be_len]; exact Nat.le_refl _)
      rw [e] at ow
      have HO := Lib.hid ow
      clear ow e
      go_wp2
      go_end0
      exact ⟨rfl, HO.out, kp⟩
theorem u64_wrap (x : Int) : IntKind.u64.wrap x = x % 18446744073709551616 := by simp [IntKind.wrap, IntKind.signed, IntKind.bits]
theorem of_len (l : List UInt8) (n : Nat) (A : Option Addr) (cap : Nat) (w : World) (hT : Tab w) (hn : l.length = n) (hl : n ≤ 9223372036854775807) (hR : RB w A l) :
    Calls Tryd.prog 49 #[.slice A n cap] w fun e w' => e = .returned (.int .u32 ((crc l : Nat) : Int)) ∧ w = w' := by
  subst hn; exact of_calls l A cap w hT hl hR
theorem Kept.far {F G : Nat → Prop} {w a b : World} (h : Kept F w a) (k : Kept G a b) (hG : ∀ j, G j → F j ∨ w.heap.size ≤ j) : Kept F w b :=
  ⟨k.os.trans h.os, k.tape.trans h.tape, k.output.trans h.output, Nat.le_trans h.size k.size, fun i hi hF => (k.block i (Nat.lt_of_lt_of_le hi h.size) (fun hg => by
    rcases hG i hg with h | h
    · exact hF h
    · omega)).trans (h.block i hi hF)⟩
theorem Tab.far {F : Nat → Prop} {w w' : World} (hT : Tab w) (k : Kept F w w') (hF : ¬ F 0) : Tab w' := by
  intro x
  have h := hT x
  have hl : 0 < w.heap.size := World.block_lt_of_cell? w ⟨0, nib x, none⟩ h
  rw [World.cell?_of_block (w := w) (k.block _ hl hF)]
  exact h
theorem number_len (l : List UInt8) (n : Nat) (A : Option Addr) (cap : Nat) (w : World) (hR : RB w A l) (hn : l.length = n) (hl : n ≤ 8) :
    Calls Tryd.prog 60 #[.slice A n cap] w fun e w' => e = .returned (.int .u64 ((beN l : Nat) : Int)) ∧ w = w' := by
  subst hn; exact number_calls l A cap w hR hl
theorem plain_len (l : List UInt8) (n : Nat) (A : Option Addr) (cap : Nat) (w : World) (hR : RB w A l) (hn : l.length = n) (hl : n ≤ 9223372036854775807) :
    Calls Tryd.prog 57 #[.slice A n cap] w fun e w' => e = .returned (.bool (plainB l)) ∧ w = w' := by
  subst hn; exact plain_calls l A cap w hR hl
end Go.Proofs.YtpojlchikaffhaaDoor
namespace Go.Proofs.YtpojlchikaffhaaDoor.PageP
open DiskP

structure Sec where
  kind : UInt8
  mark : Int
  left : Nat
  first : Bool
  bytes : List UInt8
/-- Bytes from a place up to another one. -/
def sub (l : List UInt8) (a b : Nat) : List UInt8 := (l.take b).drop a
theorem sub_len (l : List UInt8) (a b : Nat) (h : b ≤ l.length) : (sub l a b).length = b - a := by simp [sub]; omega
/-- 64 bits as a number of both signs. -/
def sg64 (n : Nat) : Int := if n < 9223372036854775808 then (n : Int) else (n : Int) - 18446744073709551616
def rdMany (l : List UInt8) : Nat := min (beN (sub l 9 13)) (l.length - 4 - 14)
/-- Is it a sector of a record? -/
def rdOK (l : List UInt8) : Bool :=
  decide (19 ≤ l.length) && decide (beN (l.drop (l.length - 4)) = crc (l.take (l.length - 4))) && decide (l.getD 0 0 ≠ 0) && decide ((l.getD 13 0).toNat ≤ 1) && decide (beN (sub l 9 13) ≤ 1073741824) &&
    (decide (l.getD 13 0 = 1) || decide (beN (sub l 9 13) ≠ 0)) && plainB (sub l (14 + rdMany l) (l.length - 4))
def rdS (l : List UInt8) : Sec := ⟨l.getD 0 0, sg64 (beN (sub l 1 9)), beN (sub l 9 13), decide (l.getD 13 0 = 1), sub l 14 (14 + rdMany l)⟩
def rd (l : List UInt8) : Option Sec := if rdOK l then some (rdS l) else none
/-- The record that begins at a sector: what is told of sectors is a function; n sectors are left; out: what was read. -/
def getP (d : Dsk) (at_ : Int) : Nat → Nat → Sec → List UInt8 → Int × UInt8 × Int × List UInt8 × Int
  | 0, _, _, _ => (8, 0, 0, [], 0)
  | fuel + 1, i, hd, out =>
    if d.readE (at_ + i) ≠ 0 then (d.readE (at_ + i), 0, 0, [], 0)
    else if i = 0 ∧ plainB (d.readL (at_ + i)) = true then (2, 0, 0, [], 0)
    else match rd (d.readL (at_ + i)) with
      | none => (8, 0, 0, [], 0)
      | some x =>
        if i = 0 ∧ x.first = false then (2, 0, 0, [], 0)
        else
          let hd' := if i = 0 then x else hd
          if 0 < i ∧ (x.first = true ∨ x.kind ≠ hd'.kind ∨ x.mark ≠ hd'.mark ∨ x.left + out.length ≠ hd'.left) then (8, 0, 0, [], 0)
          else
            let out' := out ++ x.bytes
            if out'.length = hd'.left then (0, hd'.kind, hd'.mark, out', (i : Int) + 1)
            else getP d at_ fuel (i + 1) hd' out'
end Go.Proofs.YtpojlchikaffhaaDoor.PageP
namespace Go.Proofs.YtpojlchikaffhaaDoor
open Go.RowKit DiskP SumP PageP

theorem RB.sub {w : World} {g o : Nat} {l : List UInt8} (h : RB w (some ⟨g, o, none⟩) l) (a b : Nat) : RB w (some ⟨g, o + a, none⟩) (sub l a b) := by
  intro hne
  have hl : l ≠ [] := by
    rintro rfl
    exact hne (by simp [PageP.sub, cB])
  obtain ⟨b', off, e, hb, hc⟩ := h (by simpa [cB] using hl)
  injection e with e
  injection e with e1 e2
  subst e1 e2
  refine ⟨_, _, rfl, hb, fun j v hj => ?_⟩
  rw [Nat.add_assoc]
  refine hc _ _ ?_
  have e : cB (PageP.sub l a b) = ((cB l).take b).drop a := by simp [PageP.sub, cB]
  rw [e, List.getElem?_drop, List.getElem?_take] at hj
  split at hj
  · exact hj
  · cases hj
def zeroSec : Value := .agg #[.int .u8 0, .int .i64 0, .int .u64 0, .bool false, .slice none 0 0]
def secV (x : Sec) (v : Value) : Value := .agg #[.int .u8 (x.kind.toNat : Int), .int .i64 x.mark, .int .u64 (x.left : Int), .bool x.first, v]
def RetRd (w : World) (l : List UInt8) (g : Nat) (e : Ending) (w' : World) : Prop :=
  Below w.heap.size w w' ∧ match rd l with
    | none => e = .returned (.tuple #[zeroSec, .bool false])
    | some x => ∃ cap, e = .returned (.tuple #[secV x (.slice (some ⟨g, 14, none⟩) x.bytes.length cap), .bool true])
theorem rd_short (l : List UInt8) (g cap : Nat) (w : World) (h : l.length < 19) : Calls Tryd.prog 58 #[.slice (some ⟨g, 0, none⟩) l.length cap] w (RetRd w l g) := by
  have hr : rd l = none := by unfold rd rdOK; rw [show decide (19 ≤ l.length) = false by simp; omega]; rfl
  have hend : ∀ (o : Obj), RetRd w l g (.returned (.tuple #[zeroSec, .bool false])) (w.alloc o) := fun o => ⟨(Below.refl _ _).alloc (Nat.le_refl _) _, by rw [hr]⟩
  have HEND := Lib.hid hend
  have d1 : decide ((l.length : Int) < 19) = true := by simp; omega
  clear hr hend
  go_enter Tryd.func58, Tryd.ntmps58
  go_wp2
  refine bodyPost_ret (v := .tuple #[zeroSec, .bool false]) (by simp [results, Tryd.results58, go_sem, zeroSec]) rfl (HEND.out _)
set_option maxHeartbeats 1600000 in
theorem rd_sum (l : List UInt8) (g cap : Nat) (w : World) (hT : Tab w) (hR : RB w (some ⟨g, 0, none⟩) l) (hl : l.length ≤ 4096) (hcap : l.length ≤ cap) (h : 19 ≤ l.length) (hs : beN (l.drop (l.length - 4)) ≠ crc (l.take (l.length - 4))) :
    Calls Tryd.prog 58 #[.slice (some ⟨g, 0, none⟩) l.length cap] w (RetRd w l g) := by
  have hr : rd l = none := by unfold rd rdOK; rw [show decide (beN (l.drop (l.length - 4)) = crc (l.take (l.length - 4))) = false by simpa using hs]; simp
  have hend : ∀ (w' : World), Below w.heap.size w w' → RetRd w l g (.returned (.tuple #[zeroSec, .bool false])) w' := fun w' hb => ⟨hb, by rw [hr]⟩
  have HEND := Lib.hid hend
  clear hr hend
  have d1 : decide ((l.length : Int) < 19) = false := by simp; omega
  have E4 : Hid ((l.length : Int) - 4 = ((l.length - 4 : Nat) : Int)) := by show _ = _; omega
  have n4 : l.length - 4 ≤ l.length := by omega
  have n5 : (cap = l.length - 4) = False := by simp; omega
  have n6 : l.length - (l.length - 4) = 4 := by omega
  have r1 : RB w (some ⟨g, l.length - 4, none⟩) (l.drop (l.length - 4)) := by
    have := RB.sub hR (l.length - 4) l.length
    rw [Nat.zero_add] at this
    unfold PageP.sub at this
    rw [List.take_length] at this
    exact this
  have r2 : RB w (some ⟨g, 0, none⟩) (l.take (l.length - 4)) := by
    have := RB.sub hR 0 (l.length - 4)
    unfold PageP.sub at this
    exact this
  have B1 : Below w.heap.size w (w.alloc (.cells #[.int .u8 0, .int .i64 0, .int .u64 0, .bool false, .slice none 0 0] 107)) := (Below.refl _ _).alloc (Nat.le_refl _) _
  have C1 := fun (w1 : World) (b1 : Below w.heap.size w w1) => number_len (l.drop (l.length - 4)) 4 (some ⟨g, l.length - 4, none⟩) (cap - (l.length - 4)) w1 (r1.below b1) (by rw [List.length_drop]; omega) (by omega)
  have C2 := fun (w1 : World) (b1 : Below w.heap.size w w1) => of_len (l.take (l.length - 4)) (l.length - 4) (some ⟨g, 0, none⟩) cap w1 (hT.far (Kept.of_below b1 (fun _ => False)) (fun h => h)) (by rw [List.length_take]; omega) (by omega) (r2.below b1)
  have hlt := crc_lt (l.take (l.length - 4))
  have e1 : (((beN (l.drop (l.length - 4)) : Nat) : Int) != ((crc (l.take (l.length - 4)) : Nat) : Int)) = true := by simp; omega
  have e2 : (beN (l.drop (l.length - 4)) != crc (l.take (l.length - 4))) = true := by simpa using hs
  generalize beN (l.drop (l.length - 4)) = s1 at *
  generalize crc (l.take (l.length - 4)) = s2 at *
  have wz : IntKind.u64.wrap (s2 : Int) = (s2 : Int) := by rw [u64_wrap]; omega
  clear hs
  go_enter Tryd.func58, Tryd.ntmps58
  go_wp2
  rw [E4.out]
  refine wp_region_grow (by kernel_rfl) (by kernel_rfl) ?_
  repeat (go_big_quiet_step (fail))
  go_big_quiet_step (exact calls_grow_same (C1 _ (B1.trans ((grow_below _ _).mono (by simp)))))
  repeat (go_big_quiet_step (fail))
  go_big_quiet_step (exact calls_grow_same (C2 _ (B1.trans ((grow_below _ _).mono (by simp)))))
  repeat (go_big_quiet_step (fail))
  refine wpQuiet_nil ?_
  intro _ hw'
  obtain ⟨r9, rfl⟩ := hw'
  have b2 := grow_below (w.alloc (.cells #[.int .u8 0, .int .i64 0, .int .u64 0, .bool false, .slice none 0 0] 107)) r9
  have z2 := (Blk.new w 107 #[.int .u8 0, .int .i64 0, .int .u64 0, .bool false, .slice none 0 0]).below b2 (by simp)
  have b2' : Below w.heap.size w _ := B1.trans (b2.mono (by simp))
  generalize grow (w.alloc (.cells #[.int .u8 0, .int .i64 0, .int .u64 0, .bool false, .slice none 0 0] 107)) r9 = w2 at b2' z2 ⊢
  clear b2 C1 C2 B1 wz
  have p0 : w2.cell? ⟨w.heap.size, 0, none⟩ = some (.int .u8 0) := z2.at_ rfl
  have p1 : w2.cell? ⟨w.heap.size, 1, none⟩ = some (.int .i64 0) := z2.at_ rfl
  have p2 : w2.cell? ⟨w.heap.size, 2, none⟩ = some (.int .u64 0) := z2.at_ rfl
  have p3 : w2.cell? ⟨w.heap.size, 3, none⟩ = some (.bool false) := z2.at_ rfl
  have p4 : w2.cell? ⟨w.heap.size, 4, none⟩ = some (.slice none 0 0) := z2.at_ rfl
  have y0 := z2.frozen 0
  have y1 := z2.frozen 1
  have y2 := z2.frozen 2
  have y3 := z2.frozen 3
  have y4 := z2.frozen 4
  go_wp2
  refine bodyPost_ret (v := .tuple #[zeroSec, .bool false]) (by simp [results, Tryd.results58, go_sem, zeroSec, p0, p1, p2, p3, p4]) rfl (HEND.out _ ?_)
  exact ((((b2'.setCell (Nat.le_refl _) _).setCell (Nat.le_refl _) _).setCell (Nat.le_refl _) _).setCell (Nat.le_refl _) _).setCell (Nat.le_refl _) _
end Go.Proofs.YtpojlchikaffhaaDoor
