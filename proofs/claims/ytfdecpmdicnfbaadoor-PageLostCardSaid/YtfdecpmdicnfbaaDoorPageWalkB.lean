/-
  The walks of package page's number and put.
-/
import Derived.Test.YtfdecpmdicnfbaaDoorPageWalkA
namespace Go.Proofs.YtfdecpmdicnfbaaDoor
open Go.RowKit DiskP SumP PageP

theorem or_byte (n : Nat) (c : UInt8) (hn : n < 72057594037927936) : bits .or .u64 ((n : Int) * 256) (c.toNat : Int) = ((n * 256 + c.toNat : Nat) : Int) := by
  have hc := c.toNat_lt
  have e : (n : Int) * 256 = ((n * 256 : Nat) : Int) := by simp
  rw [e, u64_or_nat _ _ (by omega) (by omega)]
  congr 1
  have h := Nat.shiftLeft_add_eq_or_of_lt (b := c.toNat) (i := 8) hc n
  rw [Nat.shiftLeft_eq] at h
  exact h.symm
theorem shift_byte (N m k : Nat) : ((N : Int) / 2 ^ (8 * (m - 1 - k)) % 256) = ((UInt8.ofNat (N / 256 ^ (m - 1 - k))).toNat : Int) := by
  rw [UInt8.toNat_ofNat', show (256 : Nat) = 2 ^ 8 from rfl, ← Nat.pow_mul]
  simp
theorem number_calls (l : List UInt8) (A : Option Addr) (cap : Nat) (w : World) (hR : RB w A l) (hl : l.length ≤ 8) :
    Calls Tryd.prog 41 #[.slice A l.length cap] w fun e w' => e = .returned (.int .u64 ((beN l : Nat) : Int)) ∧ w = w' := by
  go_enter Tryd.func41, Tryd.ntmps41
  go_wp2
  go_loop [3, 5, 8] (fun n _ i => ∃ k : Nat, k ≤ l.length ∧ i = .int .i64 k ∧ n = .int .u64 ((beN (l.take k) : Nat) : Int)) (fun _ _ i => l.length - (intOf i).toNat)
  case atStart => exact ⟨0, by omega, rfl, rfl⟩
  case round =>
    obtain ⟨k, hk, rfl, rfl⟩ := hrel
    by_cases hlt : k < l.length
    · obtain ⟨b, off, rfl, hb, hc⟩ := RB.at_ hR hlt
      have HT : Hid (beN (l.take (k + 1)) = beN (l.take k) * 256 + (l[k]).toNat) := by show _ = _; rw [List.take_succ_eq_append_getElem hlt, beN_snoc]
      have hB : beN (l.take k) < 72057594037927936 := by
        have h1 := beN_lt (l.take k)
        have h2 : 256 ^ (l.take k).length ≤ 256 ^ 7 := Nat.pow_le_pow_right (by omega) (by simp; omega)
        have h3 : (256 : Nat) ^ 7 = 72057594037927936 := rfl
        omega
      have hdec : decide ((k : Int) < (l.length : Int)) = true := by simp; omega
      generalize l[k] = c at *
      generalize beN (l.take k) = n at *
      have hcl := c.toNat_lt
      go_wp2
      go_round
      case rel => exact ⟨k + 1, by omega, by go_num, by rw [HT.out, or_byte n c hB]⟩
      case measure => simp [intOf]; omega
    · obtain rfl : k = l.length := by omega
      go_wp2
      go_ret
      exact ⟨rfl, rfl⟩
theorem cB_set (l : List UInt8) (i : Nat) (c : UInt8) : (cB l).toArray.setIfInBounds i (.int .u8 (c.toNat : Int)) = (cB (l.set i c)).toArray := by simp [cB, byteV]
theorem cB_cell {w : World} {g : Nat} {t : TypeId} {l : List UInt8} (h : Blk w g t (cB l).toArray) {i : Nat} {c : UInt8} (hc : l[i]? = some c) : w.cell? ⟨g, i, none⟩ = some (.int .u8 (c.toNat : Int)) := h.at_ (by simp [cB, hc, byteV])
/-- Its name is bput: put of package page writes a number into bytes. -/
theorem bput_calls (l : List UInt8) (g o m cap : Nat) (N : Nat) (w : World) (bk : Blk w g 5 (cB l).toArray) (hl : l.length ≤ 4096) (hm : o + m ≤ l.length) (hm8 : m ≤ 8) (hN : N < 18446744073709551616) :
    Calls Tryd.prog 28 #[.slice (some ⟨g, o, none⟩) m cap, .int .u64 (N : Int)] w fun e w' => e = .returned (.tuple #[]) ∧ Blk w' g 5 (cB (spl l o (be m N))).toArray ∧ Kept (fun k => k = g) w w' := by
  go_enter Tryd.func28, Tryd.ntmps28
  go_wp2
  go_loopw [4, 7] (fun _ i wr => ∃ k : Nat, k ≤ m ∧ i = .int .i64 k ∧ Blk wr g 5 (cB (spl l o ((be m N).take k))).toArray ∧ Kept (fun k => k = g) w wr) (fun _ i _ => m - (intOf i).toNat)
  case atStart => exact ⟨0, by omega, rfl, by rw [List.take_zero, spl_nil]; exact bk, Kept.refl _ _⟩
  case round =>
    obtain ⟨k, hk, rfl, ow, kp⟩ := hrel
    by_cases hlt : k < m
    · have hbl := be_len m N
      have hgt := be_get m N k hlt
      have hlen : (spl l o ((be m N).take k)).length = l.length := spl_len _ _ _ (by simp [hbl]; omega)
      obtain ⟨c, hc⟩ : ∃ c, (spl l o ((be m N).take k))[o + k]? = some c := ⟨_, List.getElem?_eq_getElem (by rw [hlen]; omega)⟩
      have hcell := cB_cell ow hc
      have hz := ow.frozen (o + k)
      have HST : Hid (∀ u : Int, u = ((UInt8.ofNat (N / 256 ^ (m - 1 - k))).toNat : Int) → Blk (wr.setCell ⟨g, o + k, none⟩ (.int .u8 u)) g 5 (cB (spl l o ((be m N).take (k + 1)))).toArray) := by
        show ∀ u : Int, _ → _
        rintro u rfl
        have := ow.set_ (o + k) (.int .u8 ((UInt8.ofNat (N / 256 ^ (m - 1 - k))).toNat : Int))
        rw [cB_set, spl_step l o k (be m N) _ hgt (by rw [hbl]; exact hm)] at this
        exact this
      have hdec : decide ((k : Int) < (m : Int)) = true := by simp; omega
      clear hbl hgt hlen hc ow
      go_wp2
      go_roundw
      case rel => exact ⟨k + 1, by omega, by go_num, HST.out _ (shift_byte N m k), kp.setCell (.inl rfl) _⟩
      case measure => simp [intOf]; omega
    · obtain rfl : k = m := by omega
      have e : (be k N).take k = be k N := List.take_of_length_le (by rw [be_len]; exact Nat.le_refl _)
      rw [e] at ow
      have HO := Lib.hid ow
      clear ow e
      go_wp2
      go_end0
      exact ⟨rfl, HO.out, kp⟩
theorem u64_wrap (x : Int) : IntKind.u64.wrap x = x % 18446744073709551616 := by simp [IntKind.wrap, IntKind.signed, IntKind.bits]
theorem of_len (l : List UInt8) (n : Nat) (A : Option Addr) (cap : Nat) (w : World) (hT : Tab w) (hn : l.length = n) (hl : n ≤ 9223372036854775807) (hR : RB w A l) :
    Calls Tryd.prog 29 #[.slice A n cap] w fun e w' => e = .returned (.int .u32 ((crc l : Nat) : Int)) ∧ w = w' := by
  subst hn; exact of_calls l A cap w hT hl hR
theorem Kept.far {F G : Nat → Prop} {w a b : World} (h : Kept F w a) (k : Kept G a b) (hG : ∀ j, G j → F j ∨ w.heap.size ≤ j) : Kept F w b :=
  ⟨k.os.trans h.os, k.tape.trans h.tape, k.output.trans h.output, Nat.le_trans h.size k.size, fun i hi hF => (k.block i (Nat.lt_of_lt_of_le hi h.size) (fun hg => by
    rcases hG i hg with h | h
    · exact hF h
    · omega)).trans (h.block i hi hF)⟩
theorem Tab.far {F : Nat → Prop} {w w' : World} (hT : Tab w) (k : Kept F w w') (hF : ¬ F 0) : Tab w' := by
  intro x
  have h := hT x
  have hl : 0 < w.heap.size := World.block_lt_of_cell? w ⟨0, nib x, none⟩ h
  rw [World.cell?_of_block (w := w) (k.block _ hl hF)]
  exact h
theorem number_len (l : List UInt8) (n : Nat) (A : Option Addr) (cap : Nat) (w : World) (hR : RB w A l) (hn : l.length = n) (hl : n ≤ 8) :
    Calls Tryd.prog 41 #[.slice A n cap] w fun e w' => e = .returned (.int .u64 ((beN l : Nat) : Int)) ∧ w = w' := by
  subst hn; exact number_calls l A cap w hR hl
theorem plain_len (l : List UInt8) (n : Nat) (A : Option Addr) (cap : Nat) (w : World) (hR : RB w A l) (hn : l.length = n) (hl : n ≤ 9223372036854775807) :
    Calls Tryd.prog 32 #[.slice A n cap] w fun e w' => e = .returned (.bool (plainB l)) ∧ w = w' := by
  subst hn; exact plain_calls l A cap w hR hl
end Go.Proofs.YtfdecpmdicnfbaaDoor
