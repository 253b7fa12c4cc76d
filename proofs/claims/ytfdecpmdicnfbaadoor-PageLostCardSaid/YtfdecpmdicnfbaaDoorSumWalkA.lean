/-
  The walks of package sum's inner functions and of the document's: what each computes, by SumPlain's words.
-/
import Derived.Test.YtfdecpmdicnfbaaDoorRows
import Derived.Test.YtfdecpmdicnfbaaDoorMem
import Derived.Test.YtfdecpmdicnfbaaDoorSumPlain
import Derived.Lib.Hide
namespace Go.Proofs.YtfdecpmdicnfbaaDoor
open Go.RowKit SumP

/-- A uint32 as the walk carries it. -/
def U (x : BitVec 32) : Int := (x.toNat : Int)
theorem U_lo (x : BitVec 32) : 0 ≤ U x := Int.natCast_nonneg _
theorem U_hi (x : BitVec 32) : U x < 4294967296 := by have := x.isLt; unfold U; omega
theorem U_inj {x y : BitVec 32} (h : U x = U y) : x = y := by
  apply BitVec.eq_of_toNat_eq; unfold U at h; omega
theorem U_beq (x y : BitVec 32) : (U x == U y) = (x == y) := by
  rw [Bool.eq_iff_iff]; simp only [beq_iff_eq]
  exact ⟨U_inj, fun h => by rw [h]⟩
theorem U_xor (x y : BitVec 32) : bits .xor .u32 (U x) (U y) = U (x ^^^ y) := by
  unfold U; rw [u32_xor_nat _ _ x.isLt y.isLt, BitVec.toNat_xor]
theorem U_and15 (x : BitVec 32) : bits .and .u32 (U x) 15 = ((nib x : Nat) : Int) := by
  have h := u32_and_nat x.toNat 15 x.isLt (by decide)
  rw [show (15 : Int) = ((15 : Nat) : Int) from rfl]
  unfold U; rw [h]
  have e : x.toNat &&& 15 = x.toNat % 16 := Nat.and_two_pow_sub_one_eq_mod x.toNat 4
  rw [e]; rfl
theorem U_div16 (x : BitVec 32) : U x / (16 : Int) = U (x >>> 4) := by
  unfold U; rw [BitVec.toNat_ushiftRight, Nat.shiftRight_eq_div_pow]; omega
theorem nib_lt_int (x : BitVec 32) : (((nib x : Nat) : Int) < 16) = True := by have := nib_lt x; simp; omega
theorem U_xor_byte (x : BitVec 32) (c : UInt8) : bits .xor .u32 (U x) (c.toNat : Int) = U (x ^^^ bv c) := by
  have hc : c.toNat < 256 := c.toNat_lt
  have e : (c.toNat : Int) = U (bv c) := by
    unfold U bv; rw [BitVec.toNat_ofNat, Nat.mod_eq_of_lt (by omega)]
  rw [e, U_xor]
theorem U_not (x : BitVec 32) : bits .xor .u32 (U x) 4294967295 = U (~~~ x) := by
  have e : (4294967295 : Int) = U (BitVec.allOnes 32) := by decide
  rw [e, U_xor, BitVec.xor_allOnes]
theorem U_not' (x : BitVec 32) : bits .xor .u32 IntKind.u32.max (U x) = U (~~~ x) := by
  have e : IntKind.u32.max = U (BitVec.allOnes 32) := by decide
  rw [e, U_xor, BitVec.xor_comm, BitVec.xor_allOnes]
attribute [local go_sem] U_not' U_xor U_and15 U_div16 U_xor_byte nib_lt_int U_not

/-- The table of sixteen lies as the text lays it. -/
def Tab (w : World) : Prop := ∀ x : BitVec 32, w.cell? ⟨0, nib x, none⟩ = some (.int .u32 (U (tab x)))

theorem eight_calls (s : BitVec 32) (w : World) (hT : Tab w) :
    Calls Tryd.prog 43 #[.int .u32 (U s)] w fun e w' => e = .returned (.int .u32 (U (eight s))) ∧ w = w' := by
  have h := hT
  unfold Tab at h
  have HE := Lib.hid (eight_by s)
  go_enter Tryd.func43, Tryd.ntmps43
  go_wp2
  go_ret
  exact ⟨by rw [HE.out]; rfl, rfl⟩

theorem U_and1 (x : BitVec 32) : bits .and .u32 (U x) 1 = if x.getLsbD 0 then 1 else 0 := by
  have h := u32_and_nat x.toNat 1 x.isLt (by decide)
  rw [show (1 : Int) = ((1 : Nat) : Int) from rfl]
  unfold U; rw [h, Nat.and_one_is_mod]
  rw [BitVec.getLsbD, Nat.testBit_zero]
  rcases Nat.mod_two_eq_zero_or_one x.toNat with h | h <;> simp [h]
theorem U_div2 (x : BitVec 32) : U x / (2 : Int) = U (x >>> 1) := by
  unfold U; rw [BitVec.toNat_ushiftRight, Nat.shiftRight_eq_div_pow]; omega
theorem U_poly (x : BitVec 32) : bits .xor .u32 (U x) 3988292384 = U (x ^^^ poly) := by
  have e : (3988292384 : Int) = U poly := by decide
  rw [e, U_xor]
attribute [local go_sem] U_div2 U_poly

theorem st_odd {s : BitVec 32} (h : s.getLsbD 0 = true) : (s >>> 1) ^^^ poly = st s := by unfold st; rw [h]; rfl
theorem st_ev {s : BitVec 32} (h : s.getLsbD 0 = false) : (s >>> 1) = st s := (st_even s h).symm

theorem refstep_calls (s : BitVec 32) (c : UInt8) (w : World) :
    Calls Tryd.prog 44 #[.int .u32 (U s), .int .u8 (c.toNat : Int)] w fun e w' => e = .returned (.int .u32 (U (upd s c))) ∧ w = w' := by
  have hc : c.toNat < 256 := c.toNat_lt
  go_enter Tryd.func44, Tryd.ntmps44
  go_wp2
  go_loop [0, 5] (fun x i => ∃ k : Nat, k ≤ 8 ∧ i = .int .i64 k ∧ x = .int .u32 (U (stN k (s ^^^ bv c)))) (fun _ i => 8 - (intOf i).toNat)
  case atStart => exact ⟨0, by omega, rfl, rfl⟩
  case round =>
    obtain ⟨k, hk, rfl, rfl⟩ := hrel
    by_cases hlt : k < 8
    · have HS := Lib.hid (stN_succ k (s ^^^ bv c))
      generalize stN k (s ^^^ bv c) = x at *
      cases hb : x.getLsbD 0
      · have H1 := Lib.hid (st_ev hb)
        have hv : bits .and .u32 (U x) 1 = 0 := by rw [U_and1, hb]; rfl
        clear hb
        go_wp2
        go_round
        case rel => exact ⟨k + 1, by omega, by go_num, by rw [HS.out, ← H1.out]⟩
        case measure => simp [intOf]; omega
      · have H1 := Lib.hid (st_odd hb)
        have hv : bits .and .u32 (U x) 1 = 1 := by rw [U_and1, hb]; rfl
        clear hb
        go_wp2
        go_round
        case rel => exact ⟨k + 1, by omega, by go_num, by rw [HS.out, ← H1.out]⟩
        case measure => simp [intOf]; omega
    · obtain rfl : k = 8 := by omega
      go_wp2
      go_ret
      exact ⟨rfl, rfl⟩

theorem more_calls (s : BitVec 32) (l : List UInt8) (A : Option Addr) (cap : Nat) (w : World) (hT : Tab w) (hl : l.length ≤ 9223372036854775807) (hR : RB w A l) :
    Calls Tryd.prog 40 #[.int .u32 (U s), .slice A l.length cap] w fun e w' => e = .returned (.int .u32 (U (more s l))) ∧ w = w' := by
  go_enter Tryd.func40, Tryd.ntmps40
  go_wp2
  go_loop [5, 12] (fun x i => ∃ k : Nat, k ≤ l.length ∧ i = .int .i64 k ∧ x = .int .u32 (U (raw (~~~ s) (l.take k)))) (fun _ i => l.length - (intOf i).toNat)
  case atStart => exact ⟨0, by omega, rfl, rfl⟩
  case round =>
    obtain ⟨k, hk, rfl, rfl⟩ := hrel
    by_cases hlt : k < l.length
    · obtain ⟨b, off, rfl, hb, hcell⟩ := hR.at_ hlt
      have HS : Hid (raw (~~~ s) (l.take (k + 1)) = upd (raw (~~~ s) (l.take k)) l[k]) := by
        rw [List.take_succ_eq_append_getElem hlt, raw_append]; rfl
      generalize raw (~~~ s) (l.take k) = x at *
      have hc : l[k].toNat < 256 := l[k].toNat_lt
      generalize l[k] = c at *
      go_wp2_with (go_at_call 43; refine (eight_calls _ _ hT).mono ?_; rintro e w' ⟨rfl, rfl⟩)
      go_round
      case rel => exact ⟨k + 1, by omega, by go_num, by rw [HS.out]; rfl⟩
      case measure => simp [intOf]; omega
    · obtain rfl : k = l.length := by omega
      rw [List.take_length]
      go_wp2
      go_ret
      exact ⟨rfl, rfl⟩

theorem of_calls (l : List UInt8) (A : Option Addr) (cap : Nat) (w : World) (hT : Tab w) (hl : l.length ≤ 9223372036854775807) (hR : RB w A l) :
    Calls Tryd.prog 29 #[.slice A l.length cap] w fun e w' => e = .returned (.int .u32 (U (more 0#32 l))) ∧ w = w' := by
  go_enter Tryd.func29, Tryd.ntmps29
  go_wp2_with (go_at_call 40; refine (more_calls 0#32 l A cap _ hT hl hR).mono ?_; rintro e w' ⟨rfl, rfl⟩)
  go_ret
  exact ⟨rfl, rfl⟩

theorem refmore_calls (s : BitVec 32) (l : List UInt8) (A : Option Addr) (cap : Nat) (w : World) (hl : l.length ≤ 9223372036854775807) (hR : RB w A l) :
    Calls Tryd.prog 42 #[.int .u32 (U s), .slice A l.length cap] w fun e w' => e = .returned (.int .u32 (U (more s l))) ∧ w = w' := by
  go_enter Tryd.func42, Tryd.ntmps42
  go_wp2
  go_loop [5, 6] (fun x i => ∃ k : Nat, k ≤ l.length ∧ i = .int .i64 k ∧ x = .int .u32 (U (raw (~~~ s) (l.take k)))) (fun _ i => l.length - (intOf i).toNat)
  case atStart => exact ⟨0, by omega, rfl, rfl⟩
  case round =>
    obtain ⟨k, hk, rfl, rfl⟩ := hrel
    by_cases hlt : k < l.length
    · obtain ⟨b, off, rfl, hb, hcell⟩ := hR.at_ hlt
      have HS : Hid (raw (~~~ s) (l.take (k + 1)) = upd (raw (~~~ s) (l.take k)) l[k]) := by
        rw [List.take_succ_eq_append_getElem hlt, raw_append]; rfl
      generalize raw (~~~ s) (l.take k) = x at *
      generalize l[k] = c at *
      go_wp2_with (go_at_call 44; refine (refstep_calls _ _ _).mono ?_; rintro e w' ⟨rfl, rfl⟩)
      go_round
      case rel => exact ⟨k + 1, by omega, by go_num, by rw [HS.out]⟩
      case measure => simp [intOf]; omega
    · obtain rfl : k = l.length := by omega
      rw [List.take_length]
      go_wp2
      go_ret
      exact ⟨rfl, rfl⟩
theorem refof_calls (l : List UInt8) (A : Option Addr) (cap : Nat) (w : World) (hl : l.length ≤ 9223372036854775807) (hR : RB w A l) :
    Calls Tryd.prog 37 #[.slice A l.length cap] w fun e w' => e = .returned (.int .u32 (U (more 0#32 l))) ∧ w = w' := by
  go_enter Tryd.func37, Tryd.ntmps37
  go_wp2_with (go_at_call 42; refine (refmore_calls 0#32 l A cap _ hl hR).mono ?_; rintro e w' ⟨rfl, rfl⟩)
  go_ret
  exact ⟨rfl, rfl⟩
end Go.Proofs.YtfdecpmdicnfbaaDoor
