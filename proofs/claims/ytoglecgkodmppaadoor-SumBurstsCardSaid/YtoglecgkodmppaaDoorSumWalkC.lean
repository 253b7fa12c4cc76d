/-
  The walks of package sum's Fix, Mark and of the document's Join, Bytes, Mark.
-/
import Derived.Test.YtoglecgkodmppaaDoorSumWalkB
namespace Go.Proofs.YtoglecgkodmppaaDoor
open Go.RowKit SumP
attribute [local go_sem] U_not' U_xor U_div2 U_poly U_not

theorem join_no (a b : BitVec 32) (n : Int) (w : World) (hn : n < 0 ∨ 1099511627776 < n) (h1 : -9223372036854775808 ≤ n) (h2 : n ≤ 9223372036854775807) :
    Calls Tryd.prog 15 #[.int .u32 (U a), .int .u32 (U b), .int .i64 n] w fun e w' => e = .returned (.tuple #[.int .u32 0, .int .i64 1]) ∧ w = w' := by
  by_cases h : n < 0
  · have d1 : decide (n < 0) = true := by simp; omega
    go_enter Tryd.func15, Tryd.ntmps15
    go_wp2
    go_ret2
    exact ⟨rfl, rfl⟩
  · have d1 : decide (n < 0) = false := by simp; omega
    have d2 : decide (1099511627776 < n) = true := by simp; omega
    go_enter Tryd.func15, Tryd.ntmps15
    go_wp2
    go_ret2
    exact ⟨rfl, rfl⟩
theorem refjoin_no (a b : BitVec 32) (n : Int) (w : World) (hn : n < 0 ∨ 1099511627776 < n) (h1 : -9223372036854775808 ≤ n) (h2 : n ≤ 9223372036854775807) :
    Calls Tryd.prog 16 #[.int .u32 (U a), .int .u32 (U b), .int .i64 n] w fun e w' => e = .returned (.tuple #[.int .u32 0, .int .i64 1]) ∧ w = w' := by
  by_cases h : n < 0
  · have d1 : decide (n < 0) = true := by simp; omega
    go_enter Tryd.func16, Tryd.ntmps16
    go_wp2
    go_ret2
    exact ⟨rfl, rfl⟩
  · have d1 : decide (n < 0) = false := by simp; omega
    have d2 : decide (1099511627776 < n) = true := by simp; omega
    go_enter Tryd.func16, Tryd.ntmps16
    go_wp2
    go_ret2
    exact ⟨rfl, rfl⟩
theorem refjoin_calls (a b : BitVec 32) (n : Nat) (w : World) (hn : n ≤ 1099511627776) :
    Calls Tryd.prog 16 #[.int .u32 (U a), .int .u32 (U b), .int .i64 (n : Int)] w fun e w' => e = .returned (.tuple #[.int .u32 (U (far n a ^^^ b)), .int .i64 0]) ∧ w = w' := by
  have d1 : decide ((n : Int) < 0) = false := by simp
  have d2 : decide (1099511627776 < (n : Int)) = false := by simp; omega
  go_enter Tryd.func16, Tryd.ntmps16
  go_wp2
  go_loop [8, 9] (fun x i => ∃ k : Nat, k ≤ n ∧ i = .int .i64 k ∧ x = .int .u32 (U (far k a))) (fun _ i => n - (intOf i).toNat)
  case atStart => exact ⟨0, by omega, rfl, rfl⟩
  case round =>
    obtain ⟨k, hk, rfl, rfl⟩ := hrel
    by_cases hlt : k < n
    · have HS : Hid (far (k + 1) a = upd (far k a) 0) := by
        show _ = _
        rw [far_add, far_one]; unfold upd; congr 1; simp [bv]
      generalize far k a = x at *
      go_wp2_with fail
      refine (refstep_calls x 0 _).mono ?_
      rintro e w' ⟨rfl, rfl⟩
      go_wp2
      go_round
      case rel => exact ⟨k + 1, by omega, by go_num, by rw [HS.out]⟩
      case measure => simp [intOf]; omega
    · obtain rfl : k = n := by omega
      go_wp2
      go_ret2
      exact ⟨rfl, rfl⟩

theorem U_top (x : BitVec 32) : U x / (2147483648 : Int) = if x.getLsbD 31 then 1 else 0 := by
  have h : U x / (2147483648 : Int) = U (x >>> 31) := by
    unfold U; rw [BitVec.toNat_ushiftRight, Nat.shiftRight_eq_div_pow]; omega
  rw [h]
  have hx := x.isLt
  have e : (x >>> 31).toNat = x.toNat / 2147483648 := by rw [BitVec.toNat_ushiftRight, Nat.shiftRight_eq_div_pow]
  unfold U
  rw [e, BitVec.getLsbD, Nat.testBit_eq_decide_div_mod_eq]
  have : x.toNat / 2147483648 = 0 ∨ x.toNat / 2147483648 = 1 := by omega
  rcases this with h | h <;> simp [h]
theorem U_lo2 {x : BitVec 32} (h : x.getLsbD 31 = false) : U x * (2 : Int) = U (inv x) := by
  have h1 := U_top x
  rw [h] at h1
  have h2 := U_lo x
  rw [fix_lo h]
  have : (x <<< 1).toNat = x.toNat * 2 := by
    rw [BitVec.toNat_shiftLeft, Nat.shiftLeft_eq]
    unfold U at h1
    simp at h1
    omega
  unfold U; rw [this]; omega
theorem U_hi2 {x : BitVec 32} (h : x.getLsbD 31 = true) : bits .or .u32 (U (x ^^^ poly) * (2 : Int) % (4294967296 : Int)) 1 = U (inv x) := by
  rw [fix_hi h]
  have e : U (x ^^^ poly) * (2 : Int) % (4294967296 : Int) = U ((x ^^^ poly) <<< 1) := by
    unfold U; rw [BitVec.toNat_shiftLeft, Nat.shiftLeft_eq]; omega
  rw [e]
  have := u32_or_nat ((x ^^^ poly) <<< 1).toNat 1 ((x ^^^ poly) <<< 1).isLt (by decide)
  rw [show (1 : Int) = ((1 : Nat) : Int) from rfl]
  unfold U
  rw [this, BitVec.toNat_or]; rfl
theorem leb32_cells (y : BitVec 32) : cB (leb32 y) = [.int .u8 (U y % 256), .int .u8 (U y / 256 % 256), .int .u8 (U y / 65536 % 256), .int .u8 (U y / 16777216 % 256)] := by
  have h : ∀ z : Nat, byteV (UInt8.ofNat z) = .int .u8 ((z : Int) % 256) := by
    intro z; unfold byteV; rw [UInt8.toNat_ofNat']; congr 1
  unfold leb32 cB
  simp only [List.map_cons, List.map_nil, h]
  unfold U
  simp only [BitVec.toNat_ushiftRight, Nat.shiftRight_eq_div_pow]
  rfl
theorem fix_calls (s want : BitVec 32) (w : World) :
    Calls Tryd.prog 17 #[.int .u32 (U s), .int .u32 (U want)] w (RetBytes w (leb32 (fixv s want))) := by
  go_enter Tryd.func17, Tryd.ntmps17
  go_wp2
  go_loop [5, 8] (fun x i => ∃ k : Nat, k ≤ 32 ∧ i = .int .i64 k ∧ x = .int .u32 (U (invN k (~~~ want)))) (fun _ i => 32 - (intOf i).toNat)
  case atStart => exact ⟨0, by omega, rfl, rfl⟩
  case round =>
    obtain ⟨k, hk, rfl, rfl⟩ := hrel
    by_cases hlt : k < 32
    · have HS := Lib.hid (invN_succ k (~~~ want))
      generalize invN k (~~~ want) = x at *
      cases hb : x.getLsbD 31
      · have hv : U x / (2147483648 : Int) = 0 := by rw [U_top, hb]; rfl
        have HU := Lib.hid (U_lo2 hb)
        clear hb
        go_wp2
        go_round
        case rel => exact ⟨k + 1, by omega, by go_num, by rw [HS.out, ← HU.out]⟩
        case measure => simp [intOf]; omega
      · have hv : U x / (2147483648 : Int) = 1 := by rw [U_top, hb]; rfl
        have HU := Lib.hid (U_hi2 hb)
        clear hb
        go_wp2
        go_round
        case rel => exact ⟨k + 1, by omega, by go_num, by rw [HS.out, ← HU.out]⟩
        case measure => simp [intOf]; omega
    · obtain rfl : k = 32 := by omega
      clear hlt hk
      have HL := Lib.hid (leb32_cells (fixv s want))
      go_wp2
      go_ret
      exact ⟨_, _, rfl, RB.of_blk (Blk.new _ _ _) HL.out.symm, (Below.refl _ _).alloc (Nat.le_refl _) _⟩

/-- Eight cells, the first k of them a number's bytes. -/
def lebK (u k : Nat) : Array Value := ((List.range 8).map fun i => if i < k then byteV (UInt8.ofNat (u / 256 ^ i)) else .int .u8 0).toArray
theorem lebK_at (u k i : Nat) (hi : i < 8) : (lebK u k)[i]? = some (if i < k then byteV (UInt8.ofNat (u / 256 ^ i)) else .int .u8 0) := by simp [lebK, hi]
theorem lebK_size (u k : Nat) : (lebK u k).size = 8 := by simp [lebK]
theorem lebK_put (u k : Nat) (hk : k < 8) : (lebK u k).setIfInBounds k (byteV (UInt8.ofNat (u / 256 ^ k))) = lebK u (k + 1) := by
  apply Array.ext_getElem?
  intro i
  rw [Array.getElem?_setIfInBounds]
  by_cases hi : i < 8
  · rw [lebK_at _ _ _ hi, lebK_at _ _ _ hi]
    by_cases e : k = i
    · subst e; simp [lebK_size, hi]
    · rw [if_neg e]
      by_cases h : i < k
      · simp [h, show i < k + 1 by omega]
      · simp [h, show ¬ i < k + 1 by omega]
  · have h1 : (lebK u k)[i]? = none := Array.getElem?_eq_none (by rw [lebK_size]; omega)
    have h2 : (lebK u (k + 1))[i]? = none := Array.getElem?_eq_none (by rw [lebK_size]; omega)
    rw [h1, h2, if_neg (by omega)]
theorem lebK_all (u : Nat) : (lebK u 8).toList = cB (leb64 u) := by
  unfold lebK leb64 cB
  rw [List.map_map]
  apply List.map_congr_left
  intro i hi
  rw [if_pos (by simpa using hi)]; rfl
theorem leb_byte (n : Int) (j : Nat) : Value.int .u8 (IntKind.u64.wrap n / (2 : Int) ^ (8 * j) % 256) = byteV (UInt8.ofNat ((n % 18446744073709551616).toNat / 256 ^ j)) := by
  have h : IntKind.u64.wrap n = (((n % 18446744073709551616).toNat : Nat) : Int) := by
    simp only [IntKind.wrap, IntKind.bits, IntKind.signed]
    simp
    omega
  rw [h]
  generalize (n % 18446744073709551616).toNat = u
  unfold byteV
  rw [UInt8.toNat_ofNat', Int.pow_mul]
  congr 1
theorem more_at (s : BitVec 32) (l : List UInt8) (n : Nat) (A : Option Addr) (cap : Nat) (w : World) (hT : Tab w) (hn : l.length = n) (hl : n ≤ 9223372036854775807) (hR : RB w A l) :
    Calls Tryd.prog 13 #[.int .u32 (U s), .slice A n cap] w fun e w' => e = .returned (.int .u32 (U (more s l))) ∧ w = w' := by
  subst hn; exact more_calls s l A cap w hT hl hR
theorem refmore_at (s : BitVec 32) (l : List UInt8) (n : Nat) (A : Option Addr) (cap : Nat) (w : World) (hn : l.length = n) (hl : n ≤ 9223372036854775807) (hR : RB w A l) :
    Calls Tryd.prog 14 #[.int .u32 (U s), .slice A n cap] w fun e w' => e = .returned (.int .u32 (U (more s l))) ∧ w = w' := by
  subst hn; exact refmore_calls s l A cap w hl hR
theorem of_at (l : List UInt8) (n : Nat) (A : Option Addr) (cap : Nat) (w : World) (hT : Tab w) (hn : l.length = n) (hl : n ≤ 9223372036854775807) (hR : RB w A l) :
    Calls Tryd.prog 11 #[.slice A n cap] w fun e w' => e = .returned (.int .u32 (U (more 0#32 l))) ∧ w = w' := by
  subst hn; exact of_calls l A cap w hT hl hR
theorem Tab.below {w w' : World} {B : Nat} (h : Tab w) (hb : Below B w w') (hB : 0 < B) : Tab w' := fun x => (hb.cell (p := ⟨_, _, none⟩) hB).trans (h x)
theorem Tab.lt {w : World} (h : Tab w) : 0 < w.heap.size := block_lt_of_cell (h 0#32)
theorem mark_calls (l : List UInt8) (A : Option Addr) (cap : Nat) (ws : List Int) (Aw : Option Addr) (capw : Nat) (w : World) (hT : Tab w) (hl : l.length ≤ 9223372036854775807) (hR : RB w A l)
    (hlw : ws.length ≤ 9223372036854775807) (hw : RI w Aw ws) (hwf : ∀ n ∈ ws, -9223372036854775808 ≤ n ∧ n ≤ 9223372036854775807) :
    Calls Tryd.prog 18 #[.slice A l.length cap, .slice Aw ws.length capw] w fun e w' => e = .returned (.int .u32 (U (markS (more 0#32 l) ws))) ∧ Below w.heap.size w w' := by
  go_enter Tryd.func18, Tryd.ntmps18
  go_wp2_with (go_at_call 11; refine (of_calls l A cap _ hT hl hR).mono ?_; rintro e w' ⟨rfl, rfl⟩)
  generalize hs0 : more 0#32 l = s0
  have HS0 := Lib.hid hs0
  clear hs0
  go_loopw [5, 7, 8, 9, 14] (fun x _ _ _ i wr => ∃ k : Nat, k ≤ ws.length ∧ i = .int .i64 k ∧ x = .int .u32 (U (markS s0 (ws.take k))) ∧ Below w.heap.size w wr) (fun _ _ _ _ i _ => ws.length - (intOf i).toNat)
  case atStart => exact ⟨0, by omega, rfl, rfl, Below.refl _ _⟩
  case round =>
    obtain ⟨k, hk, rfl, rfl, hbel⟩ := hrel
    by_cases hlt : k < ws.length
    · obtain ⟨b, off, rfl, hb, hcell⟩ := (hw.below hbel).at_ hlt
      have hbd := hwf ws[k] (List.getElem_mem hlt)
      have HS : Hid (markS s0 (ws.take (k + 1)) = more (markS s0 (ws.take k)) (leb64 (ws[k] % 18446744073709551616).toNat)) := by
        show _ = _
        rw [List.take_succ_eq_append_getElem hlt]; unfold markS; rw [List.foldl_append]; rfl
      generalize markS s0 (ws.take k) = x at *
      generalize ws[k] = n at *
      obtain ⟨lo, hi⟩ := hbd
      go_wp2
      obtain ⟨wo, rfl⟩ : ∃ wo : World, wo = wr := ⟨_, rfl⟩
      go_loopw [9, 18] (fun _ i wi => ∃ j : Nat, j ≤ 8 ∧ i = .int .i64 j ∧ Blk wi wo.heap.size 47 (lebK (n % 18446744073709551616).toNat j) ∧ Below wo.heap.size wo wi) (fun _ i _ => 8 - (intOf i).toNat)
      case atStart => exact ⟨0, by omega, rfl, Blk.new _ _ _, (Below.refl _ _).alloc (Nat.le_refl _) _⟩
      case round =>
        obtain ⟨j, hj, rfl, hB, hbel1⟩ := hrel
        by_cases hlt1 : j < 8
        · have hc : wr.cell? ⟨wo.heap.size, j, none⟩ = some (.int .u8 0) := by have := hB.at_ (lebK_at (n % 18446744073709551616).toNat j j hlt1); rwa [if_neg (by omega)] at this
          have hf := hB.frozen j
          go_wp2
          go_roundw
          case rel => exact ⟨j + 1, by omega, by go_num, by rw [leb_byte]; have := hB.set_ j (byteV (UInt8.ofNat ((n % 18446744073709551616).toNat / 256 ^ j))); rw [lebK_put _ _ hlt1] at this; exact this, hbel1.setCell (Nat.le_refl _) _⟩
          case measure => simp [intOf]; omega
        · obtain rfl : j = 8 := by omega
          clear hlt1 hj
          rw [show ((8 : Nat) : Int) = 8 from rfl]
          have hT' : Tab wr := (hT.below hbel hT.lt).below hbel1 (hT.below hbel hT.lt).lt
          have hR' : RB wr (some ⟨wo.heap.size, 0, none⟩) (leb64 (n % 18446744073709551616).toNat) := RB.of_blk hB (lebK_all _)
          go_wp2_with fail
          refine (more_at x _ 8 _ _ _ hT' rfl (by omega) hR').mono ?_
          rintro e w' ⟨rfl, rfl⟩
          rw [← HS.out]
          go_wp2
          go_roundw
          case rel => exact ⟨k + 1, by omega, by go_num, rfl, hbel.trans (hbel1.mono hbel.size)⟩
          case measure => simp [intOf]; omega
    · obtain rfl : k = ws.length := by omega
      rw [List.take_length]
      go_wp2
      go_ret
      exact ⟨by rw [HS0.out]; rfl, hbel⟩

theorem info_u8 : (Tryd.prog.info? 5).map (fun i => (i.zero, i.size, i.bytes)) = some (some (.int .u8 0), 1, 1) := by kernel_rfl
theorem wrap_u64_nat (n : Int) : IntKind.u64.wrap n = (((n % 18446744073709551616).toNat : Nat) : Int) := by
  simp only [IntKind.wrap, IntKind.bits, IntKind.signed]
  simp
  omega
theorem refbytes_calls (n : Int) (w : World) (_h1 : -9223372036854775808 ≤ n) (_h2 : n ≤ 9223372036854775807) :
    Calls Tryd.prog 23 #[.int .i64 n] w (RetBytes w (leb64 (n % 18446744073709551616).toNat)) := by
  obtain ⟨i0, hi, hz0, hz1, hz2⟩ := info_parts info_u8
  have hN := wrap_u64_nat n
  have hNl : (n % 18446744073709551616).toNat < 18446744073709551616 := by omega
  generalize (n % 18446744073709551616).toNat = N at *
  go_enter Tryd.func23, Tryd.ntmps23
  go_wp2
  clear hN
  go_loopw [3, 4, 5] (fun v u i wr => ∃ k q : Nat, k ≤ 8 ∧ i = .int .i64 k ∧ u = .int .u64 (q : Int) ∧ Hid (q = N / 256 ^ k) ∧ q < 18446744073709551616 ∧ wr.ownsRow w.heap.size 5 1 v k (cB ((leb64 N).take k)) ∧ Below w.heap.size w wr) (fun _ _ i _ => 8 - (intOf i).toNat)
  case atStart => exact ⟨0, N, by omega, rfl, rfl, by show N = N / 1; simp, hNl, World.ownsRow_nil _ _ _ _, Below.refl _ _⟩
  case round =>
    obtain ⟨k, q, hk, rfl, rfl, HQ, hq, hown, hbel⟩ := hrel
    by_cases hlt : k < 8
    · have HB : Hid (byteV (UInt8.ofNat (N / 256 ^ k)) = .int .u8 ((q : Int) % 256)) := by
        show _ = _
        rw [← HQ.out]; unfold byteV; rw [UInt8.toNat_ofNat']; congr 1
      have HT : Hid (cB ((leb64 N).take (k + 1)) = cB ((leb64 N).take k) ++ [.int .u8 ((q : Int) % 256)]) := by
        show _ = _
        rw [← HB.out, List.take_succ_eq_append_getElem (by simpa [leb64] using hlt), cB_append]
        congr 1
        simp [leb64, cB]
      have HQ' : Hid (q / 256 = N / 256 ^ (k + 1)) := by
        show _ = _
        rw [HQ.out, Nat.div_div_eq_div_mul, Nat.pow_succ]
      go_wp2_with (at_builtin; refine wpList_append_own _ rfl _ _ 22 rfl w.heap.size 5 i0 (.int .u8 0) 1 1 Tryd.underlying22 hi hz0 hz1 hz2 rfl (by decide) _ _ _ rfl (hown.alloc _) ⟨wr.heap.size, 0, none⟩ 1 1 [.int .u8 ((q : Int) % 256)] rfl rfl ?c1 ?c2 ?c3 ?c4 ?c5 ?_)
      case c1 => exact cell_one_new _ _ _
      case c2 => exact one_of_int _ _
      case c3 => unfold maxLen; omega
      case c4 => omega
      case c5 => have := hbel.size; simp; omega
      intro v' w1 hown1 hgr _
      rw [← HT.out] at hown1
      have hbel1 : Below w.heap.size w w1 := (hbel.alloc hbel.size _).grown hgr (by have := hbel.size; simp; omega) (fun j hj => (hown.lt j hj).1)
      clear hown hgr hbel HT HB
      go_wp2
      go_roundw
      case rel => exact ⟨k + 1, q / 256, by omega, by go_num, by go_num, HQ', by omega, hown1, hbel1⟩
      case measure => simp [intOf]; omega
    · obtain rfl : k = 8 := by omega
      obtain ⟨A, c, rfl, _, _⟩ := own_form hown
      have hR : RB wr A (leb64 N) := by
        have := RV.of_own hown
        rwa [List.take_of_length_le (by simp [leb64])] at this
      go_wp2
      go_ret
      exact ⟨A, c, rfl, hR, hbel⟩
end Go.Proofs.YtoglecgkodmppaaDoor
