/-
  The walk of the statement PageRoom: it returns true and changes nothing that was there.
-/
import Derived.Test.YtfdecpmdicnfbaaDoorPageWalkI
namespace Go.Proofs.YtfdecpmdicnfbaaDoor
open Go.RowKit DiskP SumP PageP

/-- How many bytes of a record stand in a sector. -/
def per (size : Int) : Int := if size < 19 ∨ 4096 < size then 0 else size - 18
theorem rper_calls (size : Int) (w : World) : Calls Tryd.prog 26 #[.int .i64 size] w fun e w' => e = .returned (.int .i64 (per size)) ∧ w = w' := by
  by_cases h1 : size < 19
  · have HE : Hid (per size = 0) := if_pos (.inl h1)
    have d1 : decide (size < 19) = true := by simpa using h1
    go_enter Tryd.func26, Tryd.ntmps26
    go_wp2
    go_ret
    exact ⟨by rw [HE.out]; rfl, rfl⟩
  have d1 : decide (size < 19) = false := by simpa using h1
  by_cases h2 : 4096 < size
  · have HE : Hid (per size = 0) := if_pos (.inr h2)
    have d2 : decide (4096 < size) = true := by simpa using h2
    go_enter Tryd.func26, Tryd.ntmps26
    go_wp2
    go_ret
    exact ⟨by rw [HE.out]; rfl, rfl⟩
  have d2 : decide (4096 < size) = false := by simpa using h2
  have HE : Hid (per size = size - 18) := if_neg (by omega)
  go_enter Tryd.func26, Tryd.ntmps26
  go_wp2
  go_ret
  exact ⟨by rw [HE.out]; rfl, rfl⟩
theorem per_bnd (size : Int) : 0 ≤ per size ∧ per size ≤ 4078 := by
  unfold per
  split <;> omega
theorem room_per (size sectors : Int) : room size sectors = if sectors < 1 ∨ 65536 < sectors then 0 else per size * sectors := by
  unfold room per
  by_cases h1 : sectors < 1 ∨ 65536 < sectors
  · rw [if_pos h1, if_pos (by omega)]
  · rw [if_neg h1]
    by_cases h2 : size < 19 ∨ 4096 < size
    · rw [if_pos (by omega), if_pos h2, Int.zero_mul]
    · rw [if_neg (by omega), if_neg h2]
theorem rroom_calls (size sectors : Int) (w : World) : Calls Tryd.prog 11 #[.int .i64 size, .int .i64 sectors] w fun e w' => e = .returned (.int .i64 (room size sectors)) ∧ w = w' := by
  have HR := Lib.hid (room_per size sectors)
  by_cases h3 : sectors < 1
  · have d3 : decide (sectors < 1) = true := by simpa using h3
    have HE : Hid (room size sectors = 0) := by show _ = _; rw [HR.out, if_pos (.inl h3)]
    go_enter Tryd.func11, Tryd.ntmps11
    go_wp2_with fail
    go_ret
    exact ⟨by rw [HE.out]; rfl, rfl⟩
  have d3 : decide (sectors < 1) = false := by simpa using h3
  by_cases h4 : 65536 < sectors
  · have d4 : decide (65536 < sectors) = true := by simpa using h4
    have HE : Hid (room size sectors = 0) := by show _ = _; rw [HR.out, if_pos (.inr h4)]
    go_enter Tryd.func11, Tryd.ntmps11
    go_wp2_with fail
    go_ret
    exact ⟨by rw [HE.out]; rfl, rfl⟩
  have d4 : decide (65536 < sectors) = false := by simpa using h4
  have HE : Hid (room size sectors = per size * sectors) := by show _ = _; rw [HR.out, if_neg (by omega)]
  have hb := per_bnd size
  have PC := rper_calls size w
  generalize per size = p at *
  obtain ⟨hb0, hb1⟩ := hb
  have hm : p * sectors ≤ 4078 * 65536 := Int.mul_le_mul (by omega) (by omega) (by omega) (by omega)
  have hm0 : 0 ≤ p * sectors := Int.mul_nonneg (by omega) (by omega)
  go_enter Tryd.func11, Tryd.ntmps11
  go_wp2_with fail
  refine PC.mono ?_
  rintro e w1 ⟨rfl, rfl⟩
  clear PC
  go_wp2
  go_ret
  exact ⟨by rw [HE.out]; rfl, rfl⟩
/-- The least number of sectors. -/
theorem need_least (size bytes : Int) (p n : Nat) (hp : per size = (p : Int)) (hp1 : 1 ≤ p) (h0 : 0 ≤ bytes) (h1 : bytes ≤ 1073741824) (hn : 1 ≤ n) (hlo : n = 1 ∨ ((n - 1 : Nat) : Int) * (p : Int) < bytes) (hhi : bytes ≤ (n : Int) * (p : Int)) : need size bytes = (n : Int) := by
  have hs : ¬ (size < 19 ∨ 4096 < size) := fun h => by unfold per at hp; rw [if_pos h] at hp; omega
  have hp' : size - 18 = (p : Int) := by unfold per at hp; rw [if_neg hs] at hp; exact hp
  obtain ⟨b, rfl⟩ := Int.eq_ofNat_of_zero_le h0
  unfold need
  rw [if_neg (by omega), hp']
  have e : ((b : Int) + (p : Int) - 1) / (p : Int) = (((b + p - 1) / p : Nat) : Int) := by rw [Int.natCast_ediv]; congr 1; omega
  rw [e]
  have hd := Nat.div_add_mod (b + p - 1) p
  have hm := Nat.mod_lt (b + p - 1) (show 0 < p by omega)
  have hhi' : b ≤ n * p := by exact_mod_cast hhi
  rcases hlo with rfl | hlo
  · have : (b + p - 1) / p ≤ 1 := by
      rw [Nat.one_mul] at hhi'
      have : (b + p - 1) / p < 2 := (Nat.div_lt_iff_lt_mul (by omega)).2 (by omega)
      omega
    split <;> omega
  · have hlo' : (n - 1) * p < b := by exact_mod_cast hlo
    have : (b + p - 1) / p = n := by
      have h2 : n * p ≤ b + p - 1 := by
        have : n * p = (n - 1) * p + p := by
          obtain ⟨m, rfl⟩ : ∃ m, n = m + 1 := ⟨n - 1, by omega⟩
          rw [Nat.add_sub_cancel, Nat.add_mul, Nat.one_mul]
        omega
      have h3 : b + p - 1 < (n + 1) * p := by rw [Nat.add_mul, Nat.one_mul]; omega
      exact Nat.le_antisymm (Nat.le_of_lt_succ ((Nat.div_lt_iff_lt_mul (by omega)).2 h3)) ((Nat.le_div_iff_mul_le (by omega)).2 h2)
    rw [this]
    split <;> omega
theorem rneed_calls (size bytes : Int) (w : World) : Calls Tryd.prog 12 #[.int .i64 size, .int .i64 bytes] w fun e w' => e = .returned (.int .i64 (need size bytes)) ∧ w = w' := by
  have PC := rper_calls size w
  by_cases hs : size < 19 ∨ 4096 < size
  · have hp : per size = 0 := if_pos hs
    have HE : Hid (need size bytes = 0) := if_pos (by omega)
    rw [hp] at PC
    clear hp hs
    go_enter Tryd.func12, Tryd.ntmps12
    go_wp2_with fail
    refine PC.mono ?_
    rintro e w1 ⟨rfl, rfl⟩
    clear PC
    go_wp2
    go_ret
    exact ⟨by rw [HE.out]; rfl, rfl⟩
  obtain ⟨p, hp, hp1, hp2⟩ : ∃ p : Nat, per size = (p : Int) ∧ 1 ≤ p ∧ p ≤ 4078 := ⟨(size - 18).toNat, by unfold per; rw [if_neg hs]; omega, by omega, by omega⟩
  rw [hp] at PC
  have dp : ((p : Int) == 0) = false := by simp; omega
  by_cases h3 : bytes < 0
  · have HE : Hid (need size bytes = 0) := if_pos (.inr (.inr (.inl h3)))
    have d3 : decide (bytes < 0) = true := by simpa using h3
    clear hp
    go_enter Tryd.func12, Tryd.ntmps12
    go_wp2_with fail
    refine PC.mono ?_
    rintro e w1 ⟨rfl, rfl⟩
    clear PC
    go_wp2
    go_ret
    exact ⟨by rw [HE.out]; rfl, rfl⟩
  have d3 : decide (bytes < 0) = false := by simpa using h3
  by_cases h4 : 1073741824 < bytes
  · have HE : Hid (need size bytes = 0) := if_pos (.inr (.inr (.inr h4)))
    have d4 : decide (1073741824 < bytes) = true := by simpa using h4
    clear hp
    go_enter Tryd.func12, Tryd.ntmps12
    go_wp2_with fail
    refine PC.mono ?_
    rintro e w1 ⟨rfl, rfl⟩
    clear PC
    go_wp2
    go_ret
    exact ⟨by rw [HE.out]; rfl, rfl⟩
  have d4 : decide (1073741824 < bytes) = false := by simpa using h4
  have HN := Lib.hid (fun n => need_least size bytes p n hp hp1 (by omega) (by omega))
  clear hp hs
  go_enter Tryd.func12, Tryd.ntmps12
  go_wp2_with fail
  refine PC.mono ?_
  rintro e w1 ⟨rfl, rfl⟩
  clear PC
  go_wp2
  go_loop [6] (fun i => ∃ n : Nat, 1 ≤ n ∧ i = .int .i64 (n : Int) ∧ (n = 1 ∨ ((n - 1 : Nat) : Int) * (p : Int) < bytes) ∧ ((n : Int) - 1) * (p : Int) ≤ bytes) (fun i => 1073741826 - (intOf i).toNat)
  case atStart => exact ⟨1, Nat.le_refl _, rfl, .inl rfl, by simp; omega⟩
  case round =>
    obtain ⟨n, hn1, rfl, hlo, hle⟩ := hrel
    have hnp : ((n : Int) - 1) * 1 ≤ ((n : Int) - 1) * (p : Int) := Int.mul_le_mul_of_nonneg_left (by omega) (by omega)
    rw [Int.mul_one] at hnp
    have hmul : (n : Int) * (p : Int) = ((n : Int) - 1) * (p : Int) + (p : Int) := by rw [Int.sub_mul, Int.one_mul]; omega
    have hb : (n : Int) * (p : Int) ≤ 1073745902 := by omega
    have hb0 : 0 ≤ (n : Int) * (p : Int) := Int.mul_nonneg (by omega) (by omega)
    have hn2 : n ≤ 1073741825 := by omega
    have HL := Lib.hid hlo
    have HM := Lib.hid hmul
    have HLE := Lib.hid hle
    clear hlo hmul hnp hle
    by_cases hlt : (n : Int) * (p : Int) < bytes
    · have d5 : decide ((n : Int) * (p : Int) < bytes) = true := by simpa using hlt
      have HT := Lib.hid hlt
      have hn3 : n ≤ 1073741824 := by
        have h1 : (n : Int) * 1 ≤ (n : Int) * (p : Int) := Int.mul_le_mul_of_nonneg_left (by omega) (by omega)
        rw [Int.mul_one] at h1
        omega
      clear hlt
      go_wp2
      go_round
      case rel => exact ⟨n + 1, by omega, by go_num, .inr (by rw [Nat.add_sub_cancel]; exact HT.out), by rw [show ((n + 1 : Nat) : Int) - 1 = (n : Int) by omega]; exact Int.le_of_lt HT.out⟩
      case measure => simp [intOf]; omega
    · have d5 : decide ((n : Int) * (p : Int) < bytes) = false := by simpa using hlt
      have HE : Hid (need size bytes = (n : Int)) := HN.out n hn1 HL.out (by omega)
      clear hlt
      go_wp2
      go_ret
      exact ⟨by rw [HE.out]; rfl, rfl⟩
/-- Both agree. -/
theorem need_room (size sectors bytes : Int) (h1 : 0 < room size sectors) (h2 : 0 < need size bytes) : need size bytes ≤ sectors ↔ bytes ≤ room size sectors := by
  have hr : ¬ (size < 19 ∨ 4096 < size ∨ sectors < 1 ∨ 65536 < sectors) := fun h => by unfold room at h1; rw [if_pos h] at h1; omega
  have hb : 0 ≤ bytes := (need_pos (size := size) (bytes := bytes) (by omega)).2.2.1
  obtain ⟨s, rfl⟩ := Int.eq_ofNat_of_zero_le (show 0 ≤ size by omega)
  obtain ⟨b, rfl⟩ := Int.eq_ofNat_of_zero_le hb
  obtain ⟨k, rfl⟩ := Int.eq_ofNat_of_zero_le (show 0 ≤ sectors by omega)
  obtain ⟨nn, e1, e2, e3, e4⟩ := need_nat s b (by omega)
  have hR : room (s : Int) (k : Int) = (((s - 18) * k : Nat) : Int) := by
    unfold room
    rw [if_neg hr, Int.natCast_mul]
    congr 1
    omega
  rw [e1, hR]
  constructor
  · intro h
    have : nn * (s - 18) ≤ k * (s - 18) := Nat.mul_le_mul_right _ (by omega)
    rw [Nat.mul_comm k] at this
    omega
  · intro h
    rcases Nat.lt_or_ge k nn with hlt | hge
    · have := e3 k (by omega) hlt
      rw [Nat.mul_comm] at this
      omega
    · omega
/-- The walk, by what the first test says. -/
theorem pageRoom_mod (size sectors bytes : Int) (w : World) (hT : Tab w) (e1 : decide (2000 < bytes) = true) (e2 : decide (bytes ≤ 1073741824) = true) (e3 : decide (size < 600) = true) (h1 : -9223372036854775808 ≤ bytes) (h2 : bytes ≤ 9223372036854775807) :
    Calls Tryd.prog 3 #[.int .i64 size, .int .i64 sectors, .int .i64 bytes] w fun e w' => e = .returned (.bool true) ∧ Below w.heap.size w w' := by
  go_enter Tryd.func3, Tryd.ntmps3
  go_wp2_with fail
  refine (proom_calls size sectors _).mono ?_
  rintro e w1 ⟨rfl, rfl⟩
  go_wp2_with fail
  refine (pneed_calls size _ _).mono ?_
  rintro e w1 ⟨rfl, rfl⟩
  have HNR := Lib.hid (need_room size sectors (bytes.tmod 2000))
  have RR := rroom_calls size sectors w
  have RN := rneed_calls size (bytes.tmod 2000) w
  generalize room size sectors = r at *
  generalize need size (bytes.tmod 2000) = n at *
  generalize bytes.tmod 2000 = bb at *
  go_wp2_with fail
  refine RR.mono ?_
  rintro e w1 ⟨rfl, rfl⟩
  go_wp2_with fail
  refine RN.mono ?_
  rintro e w1 ⟨rfl, rfl⟩
  clear RR RN
  by_cases p1 : 0 < r
  · have q1 : decide (0 < r) = true := decide_eq_true p1
    by_cases p2 : 0 < n
    · have q2 : decide (0 < n) = true := decide_eq_true p2
      by_cases p3 : 0 < bb
      · have q3 : decide (0 < bb) = true := decide_eq_true p3
        have hi := HNR.out p1 p2
        by_cases p4 : n ≤ sectors
        · have q4 : decide (n ≤ sectors) = true := decide_eq_true p4
          have q5 : decide (bb ≤ r) = true := decide_eq_true (hi.1 p4)
          clear hi p1 p2 p3 p4
          go_wp2_with fail
          refine (pput_nil 0 1 0 none 0 0 w).mono ?_
          rintro e w1 ⟨rfl, rfl⟩
          go_wp2_with fail
          refine (pget_nil 0 w).mono ?_
          rintro e w1 ⟨rfl, rfl⟩
          go_wp2_with fail
          refine (pfits_nil w).mono ?_
          rintro e w1 ⟨rfl, rfl⟩
          go_wp2_with fail
          refine (awake_calls w hT).mono ?_
          rintro e w1 ⟨rfl, b1⟩
          go_wp2
          go_ret
          exact ⟨rfl, b1⟩
        · have q4 : decide (n ≤ sectors) = false := decide_eq_false p4
          have q5 : decide (bb ≤ r) = false := decide_eq_false (fun h => p4 (hi.2 h))
          clear hi p1 p2 p3 p4
          go_wp2_with fail
          refine (pput_nil 0 1 0 none 0 0 w).mono ?_
          rintro e w1 ⟨rfl, rfl⟩
          go_wp2_with fail
          refine (pget_nil 0 w).mono ?_
          rintro e w1 ⟨rfl, rfl⟩
          go_wp2_with fail
          refine (pfits_nil w).mono ?_
          rintro e w1 ⟨rfl, rfl⟩
          go_wp2_with fail
          refine (awake_calls w hT).mono ?_
          rintro e w1 ⟨rfl, b1⟩
          go_wp2
          go_ret
          exact ⟨rfl, b1⟩
      · have q3 : decide (0 < bb) = false := decide_eq_false p3
        clear p1 p2 p3
        go_wp2_with fail
        refine (pput_nil 0 1 0 none 0 0 w).mono ?_
        rintro e w1 ⟨rfl, rfl⟩
        go_wp2_with fail
        refine (pget_nil 0 w).mono ?_
        rintro e w1 ⟨rfl, rfl⟩
        go_wp2_with fail
        refine (pfits_nil w).mono ?_
        rintro e w1 ⟨rfl, rfl⟩
        go_wp2_with fail
        refine (awake_calls w hT).mono ?_
        rintro e w1 ⟨rfl, b1⟩
        go_wp2
        go_ret
        exact ⟨rfl, b1⟩
    · have q2 : decide (0 < n) = false := decide_eq_false p2
      clear p1 p2
      go_wp2_with fail
      refine (pput_nil 0 1 0 none 0 0 w).mono ?_
      rintro e w1 ⟨rfl, rfl⟩
      go_wp2_with fail
      refine (pget_nil 0 w).mono ?_
      rintro e w1 ⟨rfl, rfl⟩
      go_wp2_with fail
      refine (pfits_nil w).mono ?_
      rintro e w1 ⟨rfl, rfl⟩
      go_wp2_with fail
      refine (awake_calls w hT).mono ?_
      rintro e w1 ⟨rfl, b1⟩
      go_wp2
      go_ret
      exact ⟨rfl, b1⟩
  · have q1 : decide (0 < r) = false := decide_eq_false p1
    clear p1
    go_wp2_with fail
    refine (pput_nil 0 1 0 none 0 0 w).mono ?_
    rintro e w1 ⟨rfl, rfl⟩
    go_wp2_with fail
    refine (pget_nil 0 w).mono ?_
    rintro e w1 ⟨rfl, rfl⟩
    go_wp2_with fail
    refine (pfits_nil w).mono ?_
    rintro e w1 ⟨rfl, rfl⟩
    go_wp2_with fail
    refine (awake_calls w hT).mono ?_
    rintro e w1 ⟨rfl, b1⟩
    go_wp2
    go_ret
    exact ⟨rfl, b1⟩
theorem pageRoom_a (size sectors bb : Int) (w : World) (hT : Tab w) (e1 : decide (2000 < bb) = false) :
    Calls Tryd.prog 3 #[.int .i64 size, .int .i64 sectors, .int .i64 bb] w fun e w' => e = .returned (.bool true) ∧ Below w.heap.size w w' := by
  go_enter Tryd.func3, Tryd.ntmps3
  go_wp2_with fail
  refine (proom_calls size sectors _).mono ?_
  rintro e w1 ⟨rfl, rfl⟩
  go_wp2_with fail
  refine (pneed_calls size _ _).mono ?_
  rintro e w1 ⟨rfl, rfl⟩
  have HNR := Lib.hid (need_room size sectors bb)
  have RR := rroom_calls size sectors w
  have RN := rneed_calls size bb w
  generalize room size sectors = r at *
  generalize need size bb = n at *
  go_wp2_with fail
  refine RR.mono ?_
  rintro e w1 ⟨rfl, rfl⟩
  go_wp2_with fail
  refine RN.mono ?_
  rintro e w1 ⟨rfl, rfl⟩
  clear RR RN
  by_cases p1 : 0 < r
  · have q1 : decide (0 < r) = true := decide_eq_true p1
    by_cases p2 : 0 < n
    · have q2 : decide (0 < n) = true := decide_eq_true p2
      by_cases p3 : 0 < bb
      · have q3 : decide (0 < bb) = true := decide_eq_true p3
        have hi := HNR.out p1 p2
        by_cases p4 : n ≤ sectors
        · have q4 : decide (n ≤ sectors) = true := decide_eq_true p4
          have q5 : decide (bb ≤ r) = true := decide_eq_true (hi.1 p4)
          clear hi p1 p2 p3 p4
          go_wp2_with fail
          refine (pput_nil 0 1 0 none 0 0 w).mono ?_
          rintro e w1 ⟨rfl, rfl⟩
          go_wp2_with fail
          refine (pget_nil 0 w).mono ?_
          rintro e w1 ⟨rfl, rfl⟩
          go_wp2_with fail
          refine (pfits_nil w).mono ?_
          rintro e w1 ⟨rfl, rfl⟩
          go_wp2_with fail
          refine (awake_calls w hT).mono ?_
          rintro e w1 ⟨rfl, b1⟩
          go_wp2
          go_ret
          exact ⟨rfl, b1⟩
        · have q4 : decide (n ≤ sectors) = false := decide_eq_false p4
          have q5 : decide (bb ≤ r) = false := decide_eq_false (fun h => p4 (hi.2 h))
          clear hi p1 p2 p3 p4
          go_wp2_with fail
          refine (pput_nil 0 1 0 none 0 0 w).mono ?_
          rintro e w1 ⟨rfl, rfl⟩
          go_wp2_with fail
          refine (pget_nil 0 w).mono ?_
          rintro e w1 ⟨rfl, rfl⟩
          go_wp2_with fail
          refine (pfits_nil w).mono ?_
          rintro e w1 ⟨rfl, rfl⟩
          go_wp2_with fail
          refine (awake_calls w hT).mono ?_
          rintro e w1 ⟨rfl, b1⟩
          go_wp2
          go_ret
          exact ⟨rfl, b1⟩
      · have q3 : decide (0 < bb) = false := decide_eq_false p3
        clear p1 p2 p3
        go_wp2_with fail
        refine (pput_nil 0 1 0 none 0 0 w).mono ?_
        rintro e w1 ⟨rfl, rfl⟩
        go_wp2_with fail
        refine (pget_nil 0 w).mono ?_
        rintro e w1 ⟨rfl, rfl⟩
        go_wp2_with fail
        refine (pfits_nil w).mono ?_
        rintro e w1 ⟨rfl, rfl⟩
        go_wp2_with fail
        refine (awake_calls w hT).mono ?_
        rintro e w1 ⟨rfl, b1⟩
        go_wp2
        go_ret
        exact ⟨rfl, b1⟩
    · have q2 : decide (0 < n) = false := decide_eq_false p2
      clear p1 p2
      go_wp2_with fail
      refine (pput_nil 0 1 0 none 0 0 w).mono ?_
      rintro e w1 ⟨rfl, rfl⟩
      go_wp2_with fail
      refine (pget_nil 0 w).mono ?_
      rintro e w1 ⟨rfl, rfl⟩
      go_wp2_with fail
      refine (pfits_nil w).mono ?_
      rintro e w1 ⟨rfl, rfl⟩
      go_wp2_with fail
      refine (awake_calls w hT).mono ?_
      rintro e w1 ⟨rfl, b1⟩
      go_wp2
      go_ret
      exact ⟨rfl, b1⟩
  · have q1 : decide (0 < r) = false := decide_eq_false p1
    clear p1
    go_wp2_with fail
    refine (pput_nil 0 1 0 none 0 0 w).mono ?_
    rintro e w1 ⟨rfl, rfl⟩
    go_wp2_with fail
    refine (pget_nil 0 w).mono ?_
    rintro e w1 ⟨rfl, rfl⟩
    go_wp2_with fail
    refine (pfits_nil w).mono ?_
    rintro e w1 ⟨rfl, rfl⟩
    go_wp2_with fail
    refine (awake_calls w hT).mono ?_
    rintro e w1 ⟨rfl, b1⟩
    go_wp2
    go_ret
    exact ⟨rfl, b1⟩
theorem pageRoom_b (size sectors bb : Int) (w : World) (hT : Tab w) (e1 : decide (2000 < bb) = true) (e2 : decide (bb ≤ 1073741824) = false) :
    Calls Tryd.prog 3 #[.int .i64 size, .int .i64 sectors, .int .i64 bb] w fun e w' => e = .returned (.bool true) ∧ Below w.heap.size w w' := by
  go_enter Tryd.func3, Tryd.ntmps3
  go_wp2_with fail
  refine (proom_calls size sectors _).mono ?_
  rintro e w1 ⟨rfl, rfl⟩
  go_wp2_with fail
  refine (pneed_calls size _ _).mono ?_
  rintro e w1 ⟨rfl, rfl⟩
  have HNR := Lib.hid (need_room size sectors bb)
  have RR := rroom_calls size sectors w
  have RN := rneed_calls size bb w
  generalize room size sectors = r at *
  generalize need size bb = n at *
  go_wp2_with fail
  refine RR.mono ?_
  rintro e w1 ⟨rfl, rfl⟩
  go_wp2_with fail
  refine RN.mono ?_
  rintro e w1 ⟨rfl, rfl⟩
  clear RR RN
  by_cases p1 : 0 < r
  · have q1 : decide (0 < r) = true := decide_eq_true p1
    by_cases p2 : 0 < n
    · have q2 : decide (0 < n) = true := decide_eq_true p2
      by_cases p3 : 0 < bb
      · have q3 : decide (0 < bb) = true := decide_eq_true p3
        have hi := HNR.out p1 p2
        by_cases p4 : n ≤ sectors
        · have q4 : decide (n ≤ sectors) = true := decide_eq_true p4
          have q5 : decide (bb ≤ r) = true := decide_eq_true (hi.1 p4)
          clear hi p1 p2 p3 p4
          go_wp2_with fail
          refine (pput_nil 0 1 0 none 0 0 w).mono ?_
          rintro e w1 ⟨rfl, rfl⟩
          go_wp2_with fail
          refine (pget_nil 0 w).mono ?_
          rintro e w1 ⟨rfl, rfl⟩
          go_wp2_with fail
          refine (pfits_nil w).mono ?_
          rintro e w1 ⟨rfl, rfl⟩
          go_wp2_with fail
          refine (awake_calls w hT).mono ?_
          rintro e w1 ⟨rfl, b1⟩
          go_wp2
          go_ret
          exact ⟨rfl, b1⟩
        · have q4 : decide (n ≤ sectors) = false := decide_eq_false p4
          have q5 : decide (bb ≤ r) = false := decide_eq_false (fun h => p4 (hi.2 h))
          clear hi p1 p2 p3 p4
          go_wp2_with fail
          refine (pput_nil 0 1 0 none 0 0 w).mono ?_
          rintro e w1 ⟨rfl, rfl⟩
          go_wp2_with fail
          refine (pget_nil 0 w).mono ?_
          rintro e w1 ⟨rfl, rfl⟩
          go_wp2_with fail
          refine (pfits_nil w).mono ?_
          rintro e w1 ⟨rfl, rfl⟩
          go_wp2_with fail
          refine (awake_calls w hT).mono ?_
          rintro e w1 ⟨rfl, b1⟩
          go_wp2
          go_ret
          exact ⟨rfl, b1⟩
      · have q3 : decide (0 < bb) = false := decide_eq_false p3
        clear p1 p2 p3
        go_wp2_with fail
        refine (pput_nil 0 1 0 none 0 0 w).mono ?_
        rintro e w1 ⟨rfl, rfl⟩
        go_wp2_with fail
        refine (pget_nil 0 w).mono ?_
        rintro e w1 ⟨rfl, rfl⟩
        go_wp2_with fail
        refine (pfits_nil w).mono ?_
        rintro e w1 ⟨rfl, rfl⟩
        go_wp2_with fail
        refine (awake_calls w hT).mono ?_
        rintro e w1 ⟨rfl, b1⟩
        go_wp2
        go_ret
        exact ⟨rfl, b1⟩
    · have q2 : decide (0 < n) = false := decide_eq_false p2
      clear p1 p2
      go_wp2_with fail
      refine (pput_nil 0 1 0 none 0 0 w).mono ?_
      rintro e w1 ⟨rfl, rfl⟩
      go_wp2_with fail
      refine (pget_nil 0 w).mono ?_
      rintro e w1 ⟨rfl, rfl⟩
      go_wp2_with fail
      refine (pfits_nil w).mono ?_
      rintro e w1 ⟨rfl, rfl⟩
      go_wp2_with fail
      refine (awake_calls w hT).mono ?_
      rintro e w1 ⟨rfl, b1⟩
      go_wp2
      go_ret
      exact ⟨rfl, b1⟩
  · have q1 : decide (0 < r) = false := decide_eq_false p1
    clear p1
    go_wp2_with fail
    refine (pput_nil 0 1 0 none 0 0 w).mono ?_
    rintro e w1 ⟨rfl, rfl⟩
    go_wp2_with fail
    refine (pget_nil 0 w).mono ?_
    rintro e w1 ⟨rfl, rfl⟩
    go_wp2_with fail
    refine (pfits_nil w).mono ?_
    rintro e w1 ⟨rfl, rfl⟩
    go_wp2_with fail
    refine (awake_calls w hT).mono ?_
    rintro e w1 ⟨rfl, b1⟩
    go_wp2
    go_ret
    exact ⟨rfl, b1⟩
theorem pageRoom_c (size sectors bb : Int) (w : World) (hT : Tab w) (e1 : decide (2000 < bb) = true) (e2 : decide (bb ≤ 1073741824) = true) (e3 : decide (size < 600) = false) :
    Calls Tryd.prog 3 #[.int .i64 size, .int .i64 sectors, .int .i64 bb] w fun e w' => e = .returned (.bool true) ∧ Below w.heap.size w w' := by
  go_enter Tryd.func3, Tryd.ntmps3
  go_wp2_with fail
  refine (proom_calls size sectors _).mono ?_
  rintro e w1 ⟨rfl, rfl⟩
  go_wp2_with fail
  refine (pneed_calls size _ _).mono ?_
  rintro e w1 ⟨rfl, rfl⟩
  have HNR := Lib.hid (need_room size sectors bb)
  have RR := rroom_calls size sectors w
  have RN := rneed_calls size bb w
  generalize room size sectors = r at *
  generalize need size bb = n at *
  go_wp2_with fail
  refine RR.mono ?_
  rintro e w1 ⟨rfl, rfl⟩
  go_wp2_with fail
  refine RN.mono ?_
  rintro e w1 ⟨rfl, rfl⟩
  clear RR RN
  by_cases p1 : 0 < r
  · have q1 : decide (0 < r) = true := decide_eq_true p1
    by_cases p2 : 0 < n
    · have q2 : decide (0 < n) = true := decide_eq_true p2
      by_cases p3 : 0 < bb
      · have q3 : decide (0 < bb) = true := decide_eq_true p3
        have hi := HNR.out p1 p2
        by_cases p4 : n ≤ sectors
        · have q4 : decide (n ≤ sectors) = true := decide_eq_true p4
          have q5 : decide (bb ≤ r) = true := decide_eq_true (hi.1 p4)
          clear hi p1 p2 p3 p4
          go_wp2_with fail
          refine (pput_nil 0 1 0 none 0 0 w).mono ?_
          rintro e w1 ⟨rfl, rfl⟩
          go_wp2_with fail
          refine (pget_nil 0 w).mono ?_
          rintro e w1 ⟨rfl, rfl⟩
          go_wp2_with fail
          refine (pfits_nil w).mono ?_
          rintro e w1 ⟨rfl, rfl⟩
          go_wp2_with fail
          refine (awake_calls w hT).mono ?_
          rintro e w1 ⟨rfl, b1⟩
          go_wp2
          go_ret
          exact ⟨rfl, b1⟩
        · have q4 : decide (n ≤ sectors) = false := decide_eq_false p4
          have q5 : decide (bb ≤ r) = false := decide_eq_false (fun h => p4 (hi.2 h))
          clear hi p1 p2 p3 p4
          go_wp2_with fail
          refine (pput_nil 0 1 0 none 0 0 w).mono ?_
          rintro e w1 ⟨rfl, rfl⟩
          go_wp2_with fail
          refine (pget_nil 0 w).mono ?_
          rintro e w1 ⟨rfl, rfl⟩
          go_wp2_with fail
          refine (pfits_nil w).mono ?_
          rintro e w1 ⟨rfl, rfl⟩
          go_wp2_with fail
          refine (awake_calls w hT).mono ?_
          rintro e w1 ⟨rfl, b1⟩
          go_wp2
          go_ret
          exact ⟨rfl, b1⟩
      · have q3 : decide (0 < bb) = false := decide_eq_false p3
        clear p1 p2 p3
        go_wp2_with fail
        refine (pput_nil 0 1 0 none 0 0 w).mono ?_
        rintro e w1 ⟨rfl, rfl⟩
        go_wp2_with fail
        refine (pget_nil 0 w).mono ?_
        rintro e w1 ⟨rfl, rfl⟩
        go_wp2_with fail
        refine (pfits_nil w).mono ?_
        rintro e w1 ⟨rfl, rfl⟩
        go_wp2_with fail
        refine (awake_calls w hT).mono ?_
        rintro e w1 ⟨rfl, b1⟩
        go_wp2
        go_ret
        exact ⟨rfl, b1⟩
    · have q2 : decide (0 < n) = false := decide_eq_false p2
      clear p1 p2
      go_wp2_with fail
      refine (pput_nil 0 1 0 none 0 0 w).mono ?_
      rintro e w1 ⟨rfl, rfl⟩
      go_wp2_with fail
      refine (pget_nil 0 w).mono ?_
      rintro e w1 ⟨rfl, rfl⟩
      go_wp2_with fail
      refine (pfits_nil w).mono ?_
      rintro e w1 ⟨rfl, rfl⟩
      go_wp2_with fail
      refine (awake_calls w hT).mono ?_
      rintro e w1 ⟨rfl, b1⟩
      go_wp2
      go_ret
      exact ⟨rfl, b1⟩
  · have q1 : decide (0 < r) = false := decide_eq_false p1
    clear p1
    go_wp2_with fail
    refine (pput_nil 0 1 0 none 0 0 w).mono ?_
    rintro e w1 ⟨rfl, rfl⟩
    go_wp2_with fail
    refine (pget_nil 0 w).mono ?_
    rintro e w1 ⟨rfl, rfl⟩
    go_wp2_with fail
    refine (pfits_nil w).mono ?_
    rintro e w1 ⟨rfl, rfl⟩
    go_wp2_with fail
    refine (awake_calls w hT).mono ?_
    rintro e w1 ⟨rfl, b1⟩
    go_wp2
    go_ret
    exact ⟨rfl, b1⟩
theorem pageRoom_walk (size sectors bytes : Int) (w : World) (hT : Tab w) (h1 : -9223372036854775808 ≤ bytes) (h2 : bytes ≤ 9223372036854775807) :
    Calls Tryd.prog 3 #[.int .i64 size, .int .i64 sectors, .int .i64 bytes] w fun e w' => e = .returned (.bool true) ∧ Below w.heap.size w w' := by
  cases e1 : decide (2000 < bytes)
  · exact pageRoom_a size sectors bytes w hT e1
  cases e2 : decide (bytes ≤ 1073741824)
  · exact pageRoom_b size sectors bytes w hT e1 e2
  cases e3 : decide (size < 600)
  · exact pageRoom_c size sectors bytes w hT e1 e2 e3
  exact pageRoom_mod size sectors bytes w hT e1 e2 e3 h1 h2
end Go.Proofs.YtfdecpmdicnfbaaDoor
