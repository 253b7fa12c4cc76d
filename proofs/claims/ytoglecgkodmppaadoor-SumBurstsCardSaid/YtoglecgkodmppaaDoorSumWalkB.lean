/-
  The walks of package sum's Join, Fix, Mark and of the document's.
-/
import Derived.Test.YtoglecgkodmppaaDoorSumWalkA
namespace Go.Proofs.YtoglecgkodmppaaDoor
open Go.RowKit SumP
attribute [local go_sem] U_not' U_xor U_div2 U_poly U_not

theorem times_no {m : Nat → BitVec 32} {n : BitVec 32} {k : Nat} (h : n.getLsbD k = false) : timesTo m n (k + 1) = timesTo m n k := by
  rw [timesTo, h]; rfl
theorem times_yes {m : Nat → BitVec 32} {n : BitVec 32} {k : Nat} (h : n.getLsbD k = true) : timesTo m n (k + 1) = timesTo m n k ^^^ m k := by
  rw [timesTo, h]; rfl
theorem U_divk (x : BitVec 32) (k : Nat) : U x / (2 : Int) ^ k = U (x >>> k) := by
  unfold U; rw [BitVec.toNat_ushiftRight, Nat.shiftRight_eq_div_pow]; simp
theorem U_bit (x : BitVec 32) (k : Nat) : bits .and .u32 (U x / (2 : Int) ^ k) 1 = if x.getLsbD k then 1 else 0 := by
  rw [U_divk, U_and1, BitVec.getLsbD_ushiftRight]; rfl
theorem times_calls (m : Nat → BitVec 32) (n : BitVec 32) (b : Nat) (w : World) (hm : ∀ i, i < 32 → w.cell? ⟨b, i, none⟩ = some (.int .u32 (U (m i)))) :
    Calls Tryd.prog 22 #[.pointer (some ⟨b, 0, none⟩), .int .u32 (U n)] w fun e w' => e = .returned (.int .u32 (U (timesTo m n 32))) ∧ w = w' := by
  have Hm := Lib.hid hm
  clear hm
  go_enter Tryd.func22, Tryd.ntmps22
  go_wp2
  go_loop [5, 7] (fun x i => ∃ k : Nat, k ≤ 32 ∧ i = .int .i64 k ∧ x = .int .u32 (U (timesTo m n k))) (fun _ i => 32 - (intOf i).toNat)
  case atStart => exact ⟨0, by omega, rfl, rfl⟩
  case round =>
    obtain ⟨k, hk, rfl, rfl⟩ := hrel
    by_cases hlt : k < 32
    · have hc := Hm.out k hlt
      cases hb : n.getLsbD k
      · have HS : Hid (timesTo m n (k + 1) = timesTo m n k) := times_no hb
        have hv : bits .and .u32 (U n / (2 : Int) ^ k) 1 = 0 := by rw [U_bit, hb]; rfl
        clear hb
        generalize timesTo m n k = x at *
        go_wp2
        go_round
        case rel => exact ⟨k + 1, by omega, by go_num, by rw [HS.out]⟩
        case measure => simp [intOf]; omega
      · have HS : Hid (timesTo m n (k + 1) = timesTo m n k ^^^ m k) := times_yes hb
        have hv : bits .and .u32 (U n / (2 : Int) ^ k) 1 = 1 := by rw [U_bit, hb]; rfl
        clear hb
        generalize timesTo m n k = x at *
        go_wp2
        go_round
        case rel => exact ⟨k + 1, by omega, by go_num, by rw [HS.out]⟩
        case measure => simp [intOf]; omega
    · obtain rfl : k = 32 := by omega
      go_wp2
      go_ret
      exact ⟨rfl, rfl⟩

/-- A matrix's cells; of the first k alone. -/
def matK (m : Nat → BitVec 32) (k : Nat) : Array Value := ((List.range 32).map fun i => if i < k then Value.int .u32 (U (m i)) else Value.int .u32 0).toArray
theorem matK_size (m : Nat → BitVec 32) (k : Nat) : (matK m k).size = 32 := by simp [matK]
theorem matK_at (m : Nat → BitVec 32) (k i : Nat) (hi : i < 32) : (matK m k)[i]? = some (if i < k then Value.int .u32 (U (m i)) else Value.int .u32 0) := by
  simp [matK, hi]
theorem matK_put (m : Nat → BitVec 32) (k : Nat) (hk : k < 32) : (matK m k).setIfInBounds k (.int .u32 (U (m k))) = matK m (k + 1) := by
  apply Array.ext_getElem?
  intro i
  rw [Array.getElem?_setIfInBounds]
  by_cases hi : i < 32
  · rw [matK_at _ _ _ hi, matK_at _ _ _ hi]
    by_cases e : k = i
    · subst e; simp [matK_size, hi]
    · rw [if_neg e]
      by_cases h : i < k
      · simp [h, show i < k + 1 by omega]
      · simp [h, show ¬ i < k + 1 by omega]
  · have h1 : (matK m k)[i]? = none := Array.getElem?_eq_none (by rw [matK_size]; omega)
    have h2 : (matK m (k + 1))[i]? = none := Array.getElem?_eq_none (by rw [matK_size]; omega)
    rw [h1, h2, if_neg (by omega)]
theorem matK_one (m : Nat → BitVec 32) (k : Nat) : (matK m k).all (·.oneCell') = true := by
  rw [Array.all_eq_true_iff_forall_mem]
  intro v hv
  simp only [matK, List.mem_toArray, List.mem_map] at hv
  obtain ⟨i, _, rfl⟩ := hv
  split <;> rfl

theorem U_shl (k : Nat) : (2 : Int) ^ k % (4294967296 : Int) = U (1#32 <<< k) := by
  unfold U; rw [BitVec.toNat_shiftLeft, Nat.shiftLeft_eq]; simp
attribute [local go_sem] U_shl
theorem far_two (p : Nat) (i : Nat) : timesTo (mat (far p)) (mat (far p) i) 32 = mat (far (p + p)) i := by
  rw [times_all _ (far_xor p)]; unfold mat; rw [far_add]
theorem matK_whole (m m' : Nat → BitVec 32) (h : ∀ i, m i = m' i) (k : Nat) : matK m k = matK m' k := by
  rw [show m = m' from funext h]
theorem size45 : (Tryd.prog.info? 45).map (·.size) = some 32 := by kernel_rfl

theorem times_far (p : Nat) (n : BitVec 32) (b : Nat) (w : World) (hm : Hid (∀ i, i < 32 → w.cell? ⟨b, i, none⟩ = some (.int .u32 (U (mat (far p) i))))) :
    Calls Tryd.prog 22 #[.pointer (some ⟨b, 0, none⟩), .int .u32 (U n)] w fun e w' => e = .returned (.int .u32 (U (far p n))) ∧ w = w' :=
  (times_calls _ n b w hm.out).mono fun _ _ ⟨h, k⟩ => ⟨by rw [h, times_all _ (far_xor p)], k⟩
theorem join_calls (a b : BitVec 32) (n : Nat) (w : World) (hT : Tab w) (hn : n ≤ 1099511627776) :
    Calls Tryd.prog 15 #[.int .u32 (U a), .int .u32 (U b), .int .i64 (n : Int)] w fun e w' => e = .returned (.tuple #[.int .u32 (U (far n a ^^^ b)), .int .i64 0]) ∧ Below w.heap.size w w' := by
  have d1 : decide ((n : Int) < 0) = false := by simp
  have d2 : decide (1099511627776 < (n : Int)) = false := by simp; omega
  go_enter Tryd.func15, Tryd.ntmps15
  go_wp2
  go_loopw [9, 18] (fun _ i wr => ∃ k : Nat, k ≤ 32 ∧ i = .int .i64 k ∧ Blk wr w.heap.size 45 (matK (mat eight) k) ∧ Below w.heap.size w wr) (fun _ i _ => 32 - (intOf i).toNat)
  case atStart => exact ⟨0, by omega, rfl, Blk.new _ _ _, (Below.refl _ _).alloc (Nat.le_refl _) _⟩
  case round =>
    obtain ⟨k, hk, rfl, hB, hbel⟩ := hrel
    by_cases hlt : k < 32
    · have hc : wr.cell? ⟨w.heap.size, k, none⟩ = some (.int .u32 0) := by have := hB.at_ (matK_at (mat eight) k k hlt); rwa [if_neg (by omega)] at this
      have hf := hB.frozen k
      have hT' : Tab wr := fun x => (hbel.cell (p := ⟨_, _, none⟩) (block_lt_of_cell (hT x))).trans (hT x)
      go_wp2_with (go_at_call 20; refine (eight_calls _ _ hT').mono ?_; rintro e w' ⟨rfl, rfl⟩)
      go_roundw
      case rel => exact ⟨k + 1, by omega, by go_num, by have := hB.set_ k (.int .u32 (U (mat eight k))); rw [matK_put _ _ hlt] at this; exact this, hbel.setCell (Nat.le_refl _) _⟩
      case measure => simp [intOf]; omega
    · obtain rfl : k = 32 := by omega
      clear hlt hk
      rw [show ((32 : Nat) : Int) = 32 from rfl]
      go_wp2
      go_loopw [0, 2, 10, 11] (fun a' n' _ _ wr => ∃ (p q : Nat) (x : BitVec 32), q ≤ 1099511627776 ∧ n' = .int .i64 q ∧ a' = .int .u32 (U x) ∧ Hid (far (p * q) x = far n a) ∧ Blk wr w.heap.size 45 (matK (mat (far p)) 32) ∧ Below w.heap.size w wr) (fun _ n' _ _ _ => (intOf n').toNat)
      case atStart => exact ⟨1, n, a, hn, rfl, rfl, by show far (1 * n) a = far n a; rw [Nat.one_mul], hB, hbel⟩
      case round =>
        clear hB hbel
        obtain ⟨p, q, x, hq, rfl, rfl, HF, hB, hbel⟩ := hrel
        by_cases hz : q = 0
        · subst hz
          have HF' : Hid (x = far n a) := by have := HF.out; rwa [Nat.mul_zero, far_zero] at this
          clear HF
          go_wp2
          go_ret2
          exact ⟨by rw [← HF'.out]; rfl, hbel⟩
        · have hg : decide (0 < q) = true := by simp; omega
          have hcell : ∀ i, i < 32 → wr.cell? ⟨w.heap.size, i, none⟩ = some (.int .u32 (U (mat (far p) i))) := fun i hi => by
            have := hB.at_ (matK_at (mat (far p)) 32 i hi)
            rwa [if_pos hi] at this
          have HC := Lib.hid hcell
          clear hcell
          rcases Nat.mod_two_eq_zero_or_one q with hpar | hpar
          · have hv : ((q : Int) % 2 == 1) = false := by rw [beq_eq_false_iff_ne]; omega
            obtain ⟨y, HY⟩ : ∃ y, Hid (far ((p + p) * (q / 2)) y = far n a ∧ y = x) := ⟨x, by
              have := HF.out
              refine ⟨?_, rfl⟩
              rw [← this]; congr 1
              have : q = 2 * (q / 2) := by omega
              conv => rhs; rw [this]
              rw [← Nat.mul_assoc, Nat.mul_two]⟩
            obtain rfl := HY.out.2
            have HF' := Lib.hid HY.out.1
            clear HF HY hpar
            go_wp2_with fail
            obtain ⟨wo, rfl⟩ : ∃ wo : World, wo = wr := ⟨_, rfl⟩
            go_loopw [11, 36] (fun _ i wi => ∃ k : Nat, k ≤ 32 ∧ i = .int .i64 k ∧ Blk wi w.heap.size 45 (matK (mat (far p)) 32) ∧ Blk wi wo.heap.size 45 (matK (mat (far (p + p))) k) ∧ Below w.heap.size w wi) (fun _ i _ => 32 - (intOf i).toNat)
            case atStart => exact ⟨0, by omega, rfl, hB.alloc _, Blk.new _ _ _, hbel.alloc hbel.size _⟩
            case round =>
              obtain ⟨k, hk, rfl, hB1, hB2, hbel1⟩ := hrel
              have hne : w.heap.size ≠ wo.heap.size := by have := hB.lt; omega
              by_cases hlt : k < 32
              · have hc1 : wr.cell? ⟨w.heap.size, k, none⟩ = some (.int .u32 (U (mat (far p) k))) := by have := hB1.at_ (matK_at (mat (far p)) 32 k hlt); rwa [if_pos hlt] at this
                have hc2 : wr.cell? ⟨wo.heap.size, k, none⟩ = some (.int .u32 0) := by have := hB2.at_ (matK_at (mat (far (p + p))) k k hlt); rwa [if_neg (by omega)] at this
                have hf2 := hB2.frozen k
                have HC1 : Hid (∀ i, i < 32 → wr.cell? ⟨w.heap.size, i, none⟩ = some (.int .u32 (U (mat (far p) i)))) := fun i hi => by
                  have := hB1.at_ (matK_at (mat (far p)) 32 i hi)
                  rwa [if_pos hi] at this
                have HM : Hid (far p (mat (far p) k) = mat (far (p + p)) k) := by show _ = _; unfold mat; rw [far_add]
                go_wp2_with fail
                refine (times_far p _ _ _ HC1).mono ?_
                rintro e w' ⟨rfl, rfl⟩
                rw [HM.out]
                clear HM HC1
                go_wp2
                go_roundw
                case rel => exact ⟨k + 1, by omega, by go_num, hB1.far hne _, by have := hB2.set_ k (.int .u32 (U (mat (far (p + p)) k))); rw [matK_put _ _ hlt] at this; exact this, hbel1.setCell (by show w.heap.size ≤ wo.heap.size; exact hbel.size) _⟩
                case measure => simp [intOf]; omega
              · obtain rfl : k = 32 := by omega
                clear hlt hk
                rw [show ((32 : Nat) : Int) = 32 from rfl]
                go_wp2_with (first | (refine wpList_load_row rfl 45 _ rfl wo.heap.size rfl 45 _ _ _ hB2 Tryd.underlying45 rfl (by rw [matK_size]; exact size45) ?_) | (refine wpList_store_row rfl 45 _ _ rfl w.heap.size (matK (mat (far (p + p))) 32) rfl rfl 45 _ hB1 (by rw [matK_size]; exact size45) (by rw [matK_size, matK_size]) (matK_one _ _) ?_))
                go_roundw
                case rel => exact ⟨p + p, q / 2, y, by omega, by go_num, rfl, HF', hB1.setRow_ _, below_setRow hbel1 (Nat.le_refl _) _⟩
                case measure => simp [intOf]; omega
          · have hv : ((q : Int) % 2 == 1) = true := by rw [beq_iff_eq]; omega
            have HF' : Hid (far ((p + p) * (q / 2)) (far p x) = far n a) := by
              have := HF.out
              show _ = _
              rw [← this, ← far_add]; congr 1
              have : q = 2 * (q / 2) + 1 := by omega
              conv => rhs; rw [this]
              rw [Nat.mul_add, ← Nat.mul_assoc, Nat.mul_two, Nat.mul_one, Nat.add_comm]
            clear HF hpar
            go_wp2_with fail
            refine (times_far p _ _ _ HC).mono ?_
            rintro e w' ⟨rfl, rfl⟩
            generalize far p x = y at *
            go_wp2_with fail
            obtain ⟨wo, rfl⟩ : ∃ wo : World, wo = wr := ⟨_, rfl⟩
            go_loopw [11, 36] (fun _ i wi => ∃ k : Nat, k ≤ 32 ∧ i = .int .i64 k ∧ Blk wi w.heap.size 45 (matK (mat (far p)) 32) ∧ Blk wi wo.heap.size 45 (matK (mat (far (p + p))) k) ∧ Below w.heap.size w wi) (fun _ i _ => 32 - (intOf i).toNat)
            case atStart => exact ⟨0, by omega, rfl, hB.alloc _, Blk.new _ _ _, hbel.alloc hbel.size _⟩
            case round =>
              obtain ⟨k, hk, rfl, hB1, hB2, hbel1⟩ := hrel
              have hne : w.heap.size ≠ wo.heap.size := by have := hB.lt; omega
              by_cases hlt : k < 32
              · have hc1 : wr.cell? ⟨w.heap.size, k, none⟩ = some (.int .u32 (U (mat (far p) k))) := by have := hB1.at_ (matK_at (mat (far p)) 32 k hlt); rwa [if_pos hlt] at this
                have hc2 : wr.cell? ⟨wo.heap.size, k, none⟩ = some (.int .u32 0) := by have := hB2.at_ (matK_at (mat (far (p + p))) k k hlt); rwa [if_neg (by omega)] at this
                have hf2 := hB2.frozen k
                have HC1 : Hid (∀ i, i < 32 → wr.cell? ⟨w.heap.size, i, none⟩ = some (.int .u32 (U (mat (far p) i)))) := fun i hi => by
                  have := hB1.at_ (matK_at (mat (far p)) 32 i hi)
                  rwa [if_pos hi] at this
                have HM : Hid (far p (mat (far p) k) = mat (far (p + p)) k) := by show _ = _; unfold mat; rw [far_add]
                go_wp2_with fail
                refine (times_far p _ _ _ HC1).mono ?_
                rintro e w' ⟨rfl, rfl⟩
                rw [HM.out]
                clear HM HC1
                go_wp2
                go_roundw
                case rel => exact ⟨k + 1, by omega, by go_num, hB1.far hne _, by have := hB2.set_ k (.int .u32 (U (mat (far (p + p)) k))); rw [matK_put _ _ hlt] at this; exact this, hbel1.setCell (by show w.heap.size ≤ wo.heap.size; exact hbel.size) _⟩
                case measure => simp [intOf]; omega
              · obtain rfl : k = 32 := by omega
                clear hlt hk
                rw [show ((32 : Nat) : Int) = 32 from rfl]
                go_wp2_with (first | (refine wpList_load_row rfl 45 _ rfl wo.heap.size rfl 45 _ _ _ hB2 Tryd.underlying45 rfl (by rw [matK_size]; exact size45) ?_) | (refine wpList_store_row rfl 45 _ _ rfl w.heap.size (matK (mat (far (p + p))) 32) rfl rfl 45 _ hB1 (by rw [matK_size]; exact size45) (by rw [matK_size, matK_size]) (matK_one _ _) ?_))
                go_roundw
                case rel => exact ⟨p + p, q / 2, y, by omega, by go_num, rfl, HF', hB1.setRow_ _, below_setRow hbel1 (Nat.le_refl _) _⟩
                case measure => simp [intOf]; omega
end Go.Proofs.YtoglecgkodmppaaDoor
