/-
  Walk: two letters as a number in sixteen digits (the library's ParseUint, base 16, 8 bits).
-/
import Derived.Test.YtiokbebodblhaaaGreatDoorTTx
import Derived.Shelf.Strconv.ToError
import Derived.LoopN
namespace Go.Proofs.YtiokbebodblhaaaGreatDoor
open Go.RowKit TraceP

theorem lower_calls (c : Int) (w : World) : Calls Tryz.prog 175 #[.int .u8 c] w fun e w' => e = .returned (.int .u8 (bits .or .u8 c 32)) ∧ w = w' := by
  go_enter Tryz.func175, Tryz.ntmps175
  go_wp2
  go_ret
  exact ⟨rfl, rfl⟩
theorem toerr_calls (fn s : ByteArray) (base bits : Int) (w : World) (hl : s.size ≤ 281474976710656) (hS : Std w) :
    Calls Tryz.prog 148 #[.string fn, .string s, .int .i64 base, .int .i64 bits, .iface 210 (.int .i64 2)] w fun e w' => ∃ N, e = .returned (.iface 211 (.pointer (some ⟨N, 0, none⟩))) ∧ Below w.heap.size w w' := by
  obtain ⟨_, ⟨t1, p1, b⟩, ⟨t2, p2, c⟩, _, _⟩ := hS
  refine (Any.strconv_toError_syntax { Tryz.laysC174 with } fn s base bits (.iface t1 p1) w hl (by have h0 := World.var?_cell Tryz.laysC174.m15 b 0; simpa using h0) (.inr ⟨t1, p1, rfl⟩)).mono ?_
  rintro e w' ⟨N, rfl, h1, h2, h3⟩
  exact ⟨N, rfl, h3⟩
/-- What the bit 32 makes of a letter. -/
def lowI (c : UInt8) : Int := bits .or .u8 (c.toNat : Int) 32
/-- A letter's worth: a digit; of the letters; none. -/
theorem hex_ways (c : UInt8) :
    ((48 ≤ (c.toNat : Int) ∧ (c.toNat : Int) ≤ 57) ∧ hexV c = some (c.toNat - 48)) ∨
    (57 < (c.toNat : Int) ∧ ¬ (c.toNat : Int) = 95 ∧ 97 ≤ lowI c ∧ lowI c ≤ 102 ∧ hexV c = some ((lowI c).toNat - 87)) ∨
    (57 < (c.toNat : Int) ∧ ¬ (c.toNat : Int) = 95 ∧ 102 < lowI c ∧ lowI c ≤ 122 ∧ hexV c = none) ∨
    (((c.toNat : Int) < 48 ∨ 57 < (c.toNat : Int)) ∧ (lowI c < 97 ∨ 122 < lowI c) ∧ hexV c = none) := by
  have h : ∀ n : Fin 256, ((48 ≤ (n.val : Int) ∧ (n.val : Int) ≤ 57) ∧ hexV (UInt8.ofNat n.val) = some (n.val - 48)) ∨
    (57 < (n.val : Int) ∧ ¬ (n.val : Int) = 95 ∧ 97 ≤ bits .or .u8 (n.val : Int) 32 ∧ bits .or .u8 (n.val : Int) 32 ≤ 102 ∧ hexV (UInt8.ofNat n.val) = some ((bits .or .u8 (n.val : Int) 32).toNat - 87)) ∨
    (57 < (n.val : Int) ∧ ¬ (n.val : Int) = 95 ∧ 102 < bits .or .u8 (n.val : Int) 32 ∧ bits .or .u8 (n.val : Int) 32 ≤ 122 ∧ hexV (UInt8.ofNat n.val) = none) ∨
    (((n.val : Int) < 48 ∨ 57 < (n.val : Int)) ∧ (bits .or .u8 (n.val : Int) 32 < 97 ∨ 122 < bits .or .u8 (n.val : Int) 32) ∧ hexV (UInt8.ofNat n.val) = none) := of_decide_eq_true (by kernel_rfl)
  have hc := h ⟨c.toNat, c.toNat_lt⟩
  have e : UInt8.ofNat c.toNat = c := UInt8.ofNat_toNat
  simp only [e] at hc
  exact hc
theorem two_bytes (a b : UInt8) : (bstr [a, b]).toList = [a, b] := bstr_list _
set_option maxRecDepth 100000 in
set_option maxHeartbeats 3200000 in
theorem puin_dig_dig (a b : UInt8) (w : World) (a0 : 48 ≤ (a.toNat : Int)) (a1 : (a.toNat : Int) ≤ 57) (b0 : 48 ≤ (b.toNat : Int)) (b1 : (b.toNat : Int) ≤ 57) :
    Calls Tryz.prog 162 #[.string (bstr [a, b]), .int .i64 16, .int .i64 8] w fun e w' => e = .returned (.tuple #[.int .u64 (((a.toNat : Int) - 48) * 16 + ((b.toNat : Int) - 48)), .nilIface]) ∧ Below w.heap.size w w' := by
  have te : (bstr [a, b]).toList.isEmpty = false := by rw [two_bytes a b]; rfl
  have ga := a.toNat_lt
  have gb := b.toNat_lt
  go_enter Tryz.func162, Tryz.ntmps162
  go_upto_region 35 with (fail)
  have kc := fun (w : World) => Lib.run_convert_string_bytes (P := Tryz.prog) w 9 43 5 (bstr [a, b]) Tryz.underlying9 Tryz.underlying43 Tryz.underlying5
  have sz : (bstr [a, b]).size = 2 := bstr_size _
  repeat (first | go_values | go_skip | go_guarded | go_step | go_upon)
  have B1 := Lib.bytesWorld_below w 5 (bstr [a, b])
  have c0 : (Lib.bytesWorld w 5 (bstr [a, b])).cell? ⟨w.heap.size, 0, none⟩ = some (.int .u8 (a.toNat : Int)) := by rw [Lib.bytesWorld_cell w _ _ 0 (by rw [sz]; decide), bstr_data]; rfl
  have c1 : (Lib.bytesWorld w 5 (bstr [a, b])).cell? ⟨w.heap.size, 1, none⟩ = some (.int .u8 (b.toNat : Int)) := by rw [Lib.bytesWorld_cell w _ _ 1 (by rw [sz]; decide), bstr_data]; rfl
  clear kc te
  generalize Lib.bytesWorld w 5 (bstr [a, b]) = w1 at *
  refine wp_loop_rounds 3 ?_
  rw [rounds_succ]
  go_wp2_with (go_at_call 175; refine (lower_calls _ _).mono ?_; rintro _ w2 ⟨rfl, rfl⟩)
  rw [rounds_succ]
  go_wp2_with (go_at_call 175; refine (lower_calls _ _).mono ?_; rintro _ w2 ⟨rfl, rfl⟩)
  rw [rounds_succ]
  go_wp2_with (go_at_call 175; refine (lower_calls _ _).mono ?_; rintro _ w2 ⟨rfl, rfl⟩)
  go_ret2
  exact ⟨rfl, B1⟩
set_option maxRecDepth 100000 in
set_option maxHeartbeats 3200000 in
theorem puin_dig_let (a b : UInt8) (w : World) (a0 : 48 ≤ (a.toNat : Int)) (a1 : (a.toNat : Int) ≤ 57) (lb : Int) (hb : bits .or .u8 (b.toNat : Int) 32 = lb) (b0 : 57 < (b.toNat : Int)) (b1 : ¬ (b.toNat : Int) = 95) (b2 : 97 ≤ lb) (b3 : lb ≤ 102) :
    Calls Tryz.prog 162 #[.string (bstr [a, b]), .int .i64 16, .int .i64 8] w fun e w' => e = .returned (.tuple #[.int .u64 (((a.toNat : Int) - 48) * 16 + (lb - 97 + 10)), .nilIface]) ∧ Below w.heap.size w w' := by
  have te : (bstr [a, b]).toList.isEmpty = false := by rw [two_bytes a b]; rfl
  have ga := a.toNat_lt
  have gb := b.toNat_lt
  go_enter Tryz.func162, Tryz.ntmps162
  go_upto_region 35 with (fail)
  have kc := fun (w : World) => Lib.run_convert_string_bytes (P := Tryz.prog) w 9 43 5 (bstr [a, b]) Tryz.underlying9 Tryz.underlying43 Tryz.underlying5
  have sz : (bstr [a, b]).size = 2 := bstr_size _
  repeat (first | go_values | go_skip | go_guarded | go_step | go_upon)
  have B1 := Lib.bytesWorld_below w 5 (bstr [a, b])
  have c0 : (Lib.bytesWorld w 5 (bstr [a, b])).cell? ⟨w.heap.size, 0, none⟩ = some (.int .u8 (a.toNat : Int)) := by rw [Lib.bytesWorld_cell w _ _ 0 (by rw [sz]; decide), bstr_data]; rfl
  have c1 : (Lib.bytesWorld w 5 (bstr [a, b])).cell? ⟨w.heap.size, 1, none⟩ = some (.int .u8 (b.toNat : Int)) := by rw [Lib.bytesWorld_cell w _ _ 1 (by rw [sz]; decide), bstr_data]; rfl
  clear kc te
  generalize Lib.bytesWorld w 5 (bstr [a, b]) = w1 at *
  refine wp_loop_rounds 3 ?_
  rw [rounds_succ]
  go_wp2_with (go_at_call 175; refine (lower_calls _ _).mono ?_; rintro _ w2 ⟨rfl, rfl⟩)
  rw [rounds_succ]
  go_wp2_with (go_at_call 175; refine (lower_calls _ _).mono ?_; rintro _ w2 ⟨rfl, rfl⟩)
  rw [rounds_succ]
  go_wp2_with (go_at_call 175; refine (lower_calls _ _).mono ?_; rintro _ w2 ⟨rfl, rfl⟩)
  go_ret2
  exact ⟨rfl, B1⟩
set_option maxRecDepth 100000 in
set_option maxHeartbeats 3200000 in
theorem puin_dig_big (a b : UInt8) (w : World) (a0 : 48 ≤ (a.toNat : Int)) (a1 : (a.toNat : Int) ≤ 57) (lb : Int) (hb : bits .or .u8 (b.toNat : Int) 32 = lb) (b0 : 57 < (b.toNat : Int)) (b1 : ¬ (b.toNat : Int) = 95) (b2 : 102 < lb) (b3 : lb ≤ 122) :
    Calls Tryz.prog 162 #[.string (bstr [a, b]), .int .i64 16, .int .i64 8] w fun e w' => e = .returned (.tuple #[.int .u64 0, .iface 210 (.int .i64 2)]) ∧ Below w.heap.size w w' := by
  have te : (bstr [a, b]).toList.isEmpty = false := by rw [two_bytes a b]; rfl
  have ga := a.toNat_lt
  have gb := b.toNat_lt
  go_enter Tryz.func162, Tryz.ntmps162
  go_upto_region 35 with (fail)
  have kc := fun (w : World) => Lib.run_convert_string_bytes (P := Tryz.prog) w 9 43 5 (bstr [a, b]) Tryz.underlying9 Tryz.underlying43 Tryz.underlying5
  have sz : (bstr [a, b]).size = 2 := bstr_size _
  repeat (first | go_values | go_skip | go_guarded | go_step | go_upon)
  have B1 := Lib.bytesWorld_below w 5 (bstr [a, b])
  have c0 : (Lib.bytesWorld w 5 (bstr [a, b])).cell? ⟨w.heap.size, 0, none⟩ = some (.int .u8 (a.toNat : Int)) := by rw [Lib.bytesWorld_cell w _ _ 0 (by rw [sz]; decide), bstr_data]; rfl
  have c1 : (Lib.bytesWorld w 5 (bstr [a, b])).cell? ⟨w.heap.size, 1, none⟩ = some (.int .u8 (b.toNat : Int)) := by rw [Lib.bytesWorld_cell w _ _ 1 (by rw [sz]; decide), bstr_data]; rfl
  clear kc te
  generalize Lib.bytesWorld w 5 (bstr [a, b]) = w1 at *
  refine wp_loop_rounds 3 ?_
  rw [rounds_succ]
  go_wp2_with (go_at_call 175; refine (lower_calls _ _).mono ?_; rintro _ w2 ⟨rfl, rfl⟩)
  rw [rounds_succ]
  go_wp2_with (go_at_call 175; refine (lower_calls _ _).mono ?_; rintro _ w2 ⟨rfl, rfl⟩)
  all_goals (go_ret2; exact ⟨rfl, B1⟩)
set_option maxRecDepth 100000 in
set_option maxHeartbeats 3200000 in
theorem puin_dig_non (a b : UInt8) (w : World) (a0 : 48 ≤ (a.toNat : Int)) (a1 : (a.toNat : Int) ≤ 57) (lb : Int) (hb : bits .or .u8 (b.toNat : Int) 32 = lb) (b0 : (b.toNat : Int) < 48 ∨ 57 < (b.toNat : Int)) (b2 : lb < 97 ∨ 122 < lb) :
    Calls Tryz.prog 162 #[.string (bstr [a, b]), .int .i64 16, .int .i64 8] w fun e w' => e = .returned (.tuple #[.int .u64 0, .iface 210 (.int .i64 2)]) ∧ Below w.heap.size w w' := by
  have te : (bstr [a, b]).toList.isEmpty = false := by rw [two_bytes a b]; rfl
  have ga := a.toNat_lt
  have gb := b.toNat_lt
  go_enter Tryz.func162, Tryz.ntmps162
  go_upto_region 35 with (fail)
  have kc := fun (w : World) => Lib.run_convert_string_bytes (P := Tryz.prog) w 9 43 5 (bstr [a, b]) Tryz.underlying9 Tryz.underlying43 Tryz.underlying5
  have sz : (bstr [a, b]).size = 2 := bstr_size _
  repeat (first | go_values | go_skip | go_guarded | go_step | go_upon)
  have B1 := Lib.bytesWorld_below w 5 (bstr [a, b])
  have c0 : (Lib.bytesWorld w 5 (bstr [a, b])).cell? ⟨w.heap.size, 0, none⟩ = some (.int .u8 (a.toNat : Int)) := by rw [Lib.bytesWorld_cell w _ _ 0 (by rw [sz]; decide), bstr_data]; rfl
  have c1 : (Lib.bytesWorld w 5 (bstr [a, b])).cell? ⟨w.heap.size, 1, none⟩ = some (.int .u8 (b.toNat : Int)) := by rw [Lib.bytesWorld_cell w _ _ 1 (by rw [sz]; decide), bstr_data]; rfl
  clear kc te
  generalize Lib.bytesWorld w 5 (bstr [a, b]) = w1 at *
  refine wp_loop_rounds 3 ?_
  rw [rounds_succ]
  go_wp2_with (go_at_call 175; refine (lower_calls _ _).mono ?_; rintro _ w2 ⟨rfl, rfl⟩)
  rw [rounds_succ]
  rcases b0 with b0 | b0 <;> rcases b2 with b2 | b2
  all_goals (go_wp2_with (go_at_call 175; refine (lower_calls _ _).mono ?_; rintro _ w2 ⟨rfl, rfl⟩))
  all_goals (go_ret2; exact ⟨rfl, B1⟩)
set_option maxRecDepth 100000 in
set_option maxHeartbeats 3200000 in
theorem puin_let_dig (a b : UInt8) (w : World) (la : Int) (ha : bits .or .u8 (a.toNat : Int) 32 = la) (a0 : 57 < (a.toNat : Int)) (a1 : ¬ (a.toNat : Int) = 95) (a2 : 97 ≤ la) (a3 : la ≤ 102) (b0 : 48 ≤ (b.toNat : Int)) (b1 : (b.toNat : Int) ≤ 57) :
    Calls Tryz.prog 162 #[.string (bstr [a, b]), .int .i64 16, .int .i64 8] w fun e w' => e = .returned (.tuple #[.int .u64 ((la - 97 + 10) * 16 + ((b.toNat : Int) - 48)), .nilIface]) ∧ Below w.heap.size w w' := by
  have te : (bstr [a, b]).toList.isEmpty = false := by rw [two_bytes a b]; rfl
  have ga := a.toNat_lt
  have gb := b.toNat_lt
  go_enter Tryz.func162, Tryz.ntmps162
  go_upto_region 35 with (fail)
  have kc := fun (w : World) => Lib.run_convert_string_bytes (P := Tryz.prog) w 9 43 5 (bstr [a, b]) Tryz.underlying9 Tryz.underlying43 Tryz.underlying5
  have sz : (bstr [a, b]).size = 2 := bstr_size _
  repeat (first | go_values | go_skip | go_guarded | go_step | go_upon)
  have B1 := Lib.bytesWorld_below w 5 (bstr [a, b])
  have c0 : (Lib.bytesWorld w 5 (bstr [a, b])).cell? ⟨w.heap.size, 0, none⟩ = some (.int .u8 (a.toNat : Int)) := by rw [Lib.bytesWorld_cell w _ _ 0 (by rw [sz]; decide), bstr_data]; rfl
  have c1 : (Lib.bytesWorld w 5 (bstr [a, b])).cell? ⟨w.heap.size, 1, none⟩ = some (.int .u8 (b.toNat : Int)) := by rw [Lib.bytesWorld_cell w _ _ 1 (by rw [sz]; decide), bstr_data]; rfl
  clear kc te
  generalize Lib.bytesWorld w 5 (bstr [a, b]) = w1 at *
  refine wp_loop_rounds 3 ?_
  rw [rounds_succ]
  go_wp2_with (go_at_call 175; refine (lower_calls _ _).mono ?_; rintro _ w2 ⟨rfl, rfl⟩)
  rw [rounds_succ]
  go_wp2_with (go_at_call 175; refine (lower_calls _ _).mono ?_; rintro _ w2 ⟨rfl, rfl⟩)
  rw [rounds_succ]
  go_wp2_with (go_at_call 175; refine (lower_calls _ _).mono ?_; rintro _ w2 ⟨rfl, rfl⟩)
  go_ret2
  exact ⟨rfl, B1⟩
set_option maxRecDepth 100000 in
set_option maxHeartbeats 3200000 in
theorem puin_let_let (a b : UInt8) (w : World) (la : Int) (ha : bits .or .u8 (a.toNat : Int) 32 = la) (a0 : 57 < (a.toNat : Int)) (a1 : ¬ (a.toNat : Int) = 95) (a2 : 97 ≤ la) (a3 : la ≤ 102) (lb : Int) (hb : bits .or .u8 (b.toNat : Int) 32 = lb) (b0 : 57 < (b.toNat : Int)) (b1 : ¬ (b.toNat : Int) = 95) (b2 : 97 ≤ lb) (b3 : lb ≤ 102) :
    Calls Tryz.prog 162 #[.string (bstr [a, b]), .int .i64 16, .int .i64 8] w fun e w' => e = .returned (.tuple #[.int .u64 ((la - 97 + 10) * 16 + (lb - 97 + 10)), .nilIface]) ∧ Below w.heap.size w w' := by
  have te : (bstr [a, b]).toList.isEmpty = false := by rw [two_bytes a b]; rfl
  have ga := a.toNat_lt
  have gb := b.toNat_lt
  go_enter Tryz.func162, Tryz.ntmps162
  go_upto_region 35 with (fail)
  have kc := fun (w : World) => Lib.run_convert_string_bytes (P := Tryz.prog) w 9 43 5 (bstr [a, b]) Tryz.underlying9 Tryz.underlying43 Tryz.underlying5
  have sz : (bstr [a, b]).size = 2 := bstr_size _
  repeat (first | go_values | go_skip | go_guarded | go_step | go_upon)
  have B1 := Lib.bytesWorld_below w 5 (bstr [a, b])
  have c0 : (Lib.bytesWorld w 5 (bstr [a, b])).cell? ⟨w.heap.size, 0, none⟩ = some (.int .u8 (a.toNat : Int)) := by rw [Lib.bytesWorld_cell w _ _ 0 (by rw [sz]; decide), bstr_data]; rfl
  have c1 : (Lib.bytesWorld w 5 (bstr [a, b])).cell? ⟨w.heap.size, 1, none⟩ = some (.int .u8 (b.toNat : Int)) := by rw [Lib.bytesWorld_cell w _ _ 1 (by rw [sz]; decide), bstr_data]; rfl
  clear kc te
  generalize Lib.bytesWorld w 5 (bstr [a, b]) = w1 at *
  refine wp_loop_rounds 3 ?_
  rw [rounds_succ]
  go_wp2_with (go_at_call 175; refine (lower_calls _ _).mono ?_; rintro _ w2 ⟨rfl, rfl⟩)
  rw [rounds_succ]
  go_wp2_with (go_at_call 175; refine (lower_calls _ _).mono ?_; rintro _ w2 ⟨rfl, rfl⟩)
  rw [rounds_succ]
  go_wp2_with (go_at_call 175; refine (lower_calls _ _).mono ?_; rintro _ w2 ⟨rfl, rfl⟩)
  go_ret2
  exact ⟨rfl, B1⟩
set_option maxRecDepth 100000 in
set_option maxHeartbeats 3200000 in
theorem puin_let_big (a b : UInt8) (w : World) (la : Int) (ha : bits .or .u8 (a.toNat : Int) 32 = la) (a0 : 57 < (a.toNat : Int)) (a1 : ¬ (a.toNat : Int) = 95) (a2 : 97 ≤ la) (a3 : la ≤ 102) (lb : Int) (hb : bits .or .u8 (b.toNat : Int) 32 = lb) (b0 : 57 < (b.toNat : Int)) (b1 : ¬ (b.toNat : Int) = 95) (b2 : 102 < lb) (b3 : lb ≤ 122) :
    Calls Tryz.prog 162 #[.string (bstr [a, b]), .int .i64 16, .int .i64 8] w fun e w' => e = .returned (.tuple #[.int .u64 0, .iface 210 (.int .i64 2)]) ∧ Below w.heap.size w w' := by
  have te : (bstr [a, b]).toList.isEmpty = false := by rw [two_bytes a b]; rfl
  have ga := a.toNat_lt
  have gb := b.toNat_lt
  go_enter Tryz.func162, Tryz.ntmps162
  go_upto_region 35 with (fail)
  have kc := fun (w : World) => Lib.run_convert_string_bytes (P := Tryz.prog) w 9 43 5 (bstr [a, b]) Tryz.underlying9 Tryz.underlying43 Tryz.underlying5
  have sz : (bstr [a, b]).size = 2 := bstr_size _
  repeat (first | go_values | go_skip | go_guarded | go_step | go_upon)
  have B1 := Lib.bytesWorld_below w 5 (bstr [a, b])
  have c0 : (Lib.bytesWorld w 5 (bstr [a, b])).cell? ⟨w.heap.size, 0, none⟩ = some (.int .u8 (a.toNat : Int)) := by rw [Lib.bytesWorld_cell w _ _ 0 (by rw [sz]; decide), bstr_data]; rfl
  have c1 : (Lib.bytesWorld w 5 (bstr [a, b])).cell? ⟨w.heap.size, 1, none⟩ = some (.int .u8 (b.toNat : Int)) := by rw [Lib.bytesWorld_cell w _ _ 1 (by rw [sz]; decide), bstr_data]; rfl
  clear kc te
  generalize Lib.bytesWorld w 5 (bstr [a, b]) = w1 at *
  refine wp_loop_rounds 3 ?_
  rw [rounds_succ]
  go_wp2_with (go_at_call 175; refine (lower_calls _ _).mono ?_; rintro _ w2 ⟨rfl, rfl⟩)
  rw [rounds_succ]
  go_wp2_with (go_at_call 175; refine (lower_calls _ _).mono ?_; rintro _ w2 ⟨rfl, rfl⟩)
  all_goals (go_ret2; exact ⟨rfl, B1⟩)
set_option maxRecDepth 100000 in
set_option maxHeartbeats 3200000 in
theorem puin_let_non (a b : UInt8) (w : World) (la : Int) (ha : bits .or .u8 (a.toNat : Int) 32 = la) (a0 : 57 < (a.toNat : Int)) (a1 : ¬ (a.toNat : Int) = 95) (a2 : 97 ≤ la) (a3 : la ≤ 102) (lb : Int) (hb : bits .or .u8 (b.toNat : Int) 32 = lb) (b0 : (b.toNat : Int) < 48 ∨ 57 < (b.toNat : Int)) (b2 : lb < 97 ∨ 122 < lb) :
    Calls Tryz.prog 162 #[.string (bstr [a, b]), .int .i64 16, .int .i64 8] w fun e w' => e = .returned (.tuple #[.int .u64 0, .iface 210 (.int .i64 2)]) ∧ Below w.heap.size w w' := by
  have te : (bstr [a, b]).toList.isEmpty = false := by rw [two_bytes a b]; rfl
  have ga := a.toNat_lt
  have gb := b.toNat_lt
  go_enter Tryz.func162, Tryz.ntmps162
  go_upto_region 35 with (fail)
  have kc := fun (w : World) => Lib.run_convert_string_bytes (P := Tryz.prog) w 9 43 5 (bstr [a, b]) Tryz.underlying9 Tryz.underlying43 Tryz.underlying5
  have sz : (bstr [a, b]).size = 2 := bstr_size _
  repeat (first | go_values | go_skip | go_guarded | go_step | go_upon)
  have B1 := Lib.bytesWorld_below w 5 (bstr [a, b])
  have c0 : (Lib.bytesWorld w 5 (bstr [a, b])).cell? ⟨w.heap.size, 0, none⟩ = some (.int .u8 (a.toNat : Int)) := by rw [Lib.bytesWorld_cell w _ _ 0 (by rw [sz]; decide), bstr_data]; rfl
  have c1 : (Lib.bytesWorld w 5 (bstr [a, b])).cell? ⟨w.heap.size, 1, none⟩ = some (.int .u8 (b.toNat : Int)) := by rw [Lib.bytesWorld_cell w _ _ 1 (by rw [sz]; decide), bstr_data]; rfl
  clear kc te
  generalize Lib.bytesWorld w 5 (bstr [a, b]) = w1 at *
  refine wp_loop_rounds 3 ?_
  rw [rounds_succ]
  go_wp2_with (go_at_call 175; refine (lower_calls _ _).mono ?_; rintro _ w2 ⟨rfl, rfl⟩)
  rw [rounds_succ]
  rcases b0 with b0 | b0 <;> rcases b2 with b2 | b2
  all_goals (go_wp2_with (go_at_call 175; refine (lower_calls _ _).mono ?_; rintro _ w2 ⟨rfl, rfl⟩))
  all_goals (go_ret2; exact ⟨rfl, B1⟩)
set_option maxRecDepth 100000 in
set_option maxHeartbeats 3200000 in
theorem puin_big (a b : UInt8) (w : World) (la : Int) (ha : bits .or .u8 (a.toNat : Int) 32 = la) (a0 : 57 < (a.toNat : Int)) (a1 : ¬ (a.toNat : Int) = 95) (a2 : 102 < la) (a3 : la ≤ 122) :
    Calls Tryz.prog 162 #[.string (bstr [a, b]), .int .i64 16, .int .i64 8] w fun e w' => e = .returned (.tuple #[.int .u64 0, .iface 210 (.int .i64 2)]) ∧ Below w.heap.size w w' := by
  have te : (bstr [a, b]).toList.isEmpty = false := by rw [two_bytes a b]; rfl
  have ga := a.toNat_lt
  have gb := b.toNat_lt
  go_enter Tryz.func162, Tryz.ntmps162
  go_upto_region 35 with (fail)
  have kc := fun (w : World) => Lib.run_convert_string_bytes (P := Tryz.prog) w 9 43 5 (bstr [a, b]) Tryz.underlying9 Tryz.underlying43 Tryz.underlying5
  have sz : (bstr [a, b]).size = 2 := bstr_size _
  repeat (first | go_values | go_skip | go_guarded | go_step | go_upon)
  have B1 := Lib.bytesWorld_below w 5 (bstr [a, b])
  have c0 : (Lib.bytesWorld w 5 (bstr [a, b])).cell? ⟨w.heap.size, 0, none⟩ = some (.int .u8 (a.toNat : Int)) := by rw [Lib.bytesWorld_cell w _ _ 0 (by rw [sz]; decide), bstr_data]; rfl
  have c1 : (Lib.bytesWorld w 5 (bstr [a, b])).cell? ⟨w.heap.size, 1, none⟩ = some (.int .u8 (b.toNat : Int)) := by rw [Lib.bytesWorld_cell w _ _ 1 (by rw [sz]; decide), bstr_data]; rfl
  clear kc te
  generalize Lib.bytesWorld w 5 (bstr [a, b]) = w1 at *
  refine wp_loop_rounds 3 ?_
  rw [rounds_succ]
  go_wp2_with (go_at_call 175; refine (lower_calls _ _).mono ?_; rintro _ w2 ⟨rfl, rfl⟩)
  all_goals (go_ret2; exact ⟨rfl, B1⟩)
set_option maxRecDepth 100000 in
set_option maxHeartbeats 3200000 in
theorem puin_non (a b : UInt8) (w : World) (la : Int) (ha : bits .or .u8 (a.toNat : Int) 32 = la) (a0 : (a.toNat : Int) < 48 ∨ 57 < (a.toNat : Int)) (a2 : la < 97 ∨ 122 < la) :
    Calls Tryz.prog 162 #[.string (bstr [a, b]), .int .i64 16, .int .i64 8] w fun e w' => e = .returned (.tuple #[.int .u64 0, .iface 210 (.int .i64 2)]) ∧ Below w.heap.size w w' := by
  have te : (bstr [a, b]).toList.isEmpty = false := by rw [two_bytes a b]; rfl
  have ga := a.toNat_lt
  have gb := b.toNat_lt
  go_enter Tryz.func162, Tryz.ntmps162
  go_upto_region 35 with (fail)
  have kc := fun (w : World) => Lib.run_convert_string_bytes (P := Tryz.prog) w 9 43 5 (bstr [a, b]) Tryz.underlying9 Tryz.underlying43 Tryz.underlying5
  have sz : (bstr [a, b]).size = 2 := bstr_size _
  repeat (first | go_values | go_skip | go_guarded | go_step | go_upon)
  have B1 := Lib.bytesWorld_below w 5 (bstr [a, b])
  have c0 : (Lib.bytesWorld w 5 (bstr [a, b])).cell? ⟨w.heap.size, 0, none⟩ = some (.int .u8 (a.toNat : Int)) := by rw [Lib.bytesWorld_cell w _ _ 0 (by rw [sz]; decide), bstr_data]; rfl
  have c1 : (Lib.bytesWorld w 5 (bstr [a, b])).cell? ⟨w.heap.size, 1, none⟩ = some (.int .u8 (b.toNat : Int)) := by rw [Lib.bytesWorld_cell w _ _ 1 (by rw [sz]; decide), bstr_data]; rfl
  clear kc te
  generalize Lib.bytesWorld w 5 (bstr [a, b]) = w1 at *
  refine wp_loop_rounds 3 ?_
  rw [rounds_succ]
  rcases a0 with a0 | a0 <;> rcases a2 with a2 | a2
  all_goals (go_wp2_with (go_at_call 175; refine (lower_calls _ _).mono ?_; rintro _ w2 ⟨rfl, rfl⟩))
  all_goals (go_ret2; exact ⟨rfl, B1⟩)
end Go.Proofs.YtiokbebodblhaaaGreatDoor
