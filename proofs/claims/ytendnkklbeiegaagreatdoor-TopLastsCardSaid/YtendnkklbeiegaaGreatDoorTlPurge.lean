/-
  Walk: the line of a purge, as a text that a store may keep.
-/
import Derived.Test.YtendnkklbeiegaaGreatDoorTlNote
import Derived.Test.YtendnkklbeiegaaGreatDoorGrow
namespace Go.Proofs.YtendnkklbeiegaaGreatDoor
open Go.RowKit StoreP
/-- The key of a purge. -/
abbrev zT : List UInt8 := [122]
set_option maxHeartbeats 800000 in
theorem pkey_calls (l : List UInt8) (h1 : 1 ≤ l.length) (h2 : l.length ≤ 200) (hc : ∀ k, k < l.length → 33 ≤ bA l k ∧ bA l k ≤ 126) (w : World) :
    Calls Tryz.prog 115 #[.string (bstr l)] w fun e w' => e = .returned (.bool true) ∧ w = w' := by
  have hb := get_bA l
  have hs : (bstr l).size = l.length := rfl
  have d1 : decide ((l.length : Int) < 1) = false := decide_eq_false (by omega)
  have d2 : decide (200 < (l.length : Int)) = false := decide_eq_false (by omega)
  have d1n : decide (l.length < 1) = false := decide_eq_false (by omega)
  have d2n : decide (200 < l.length) = false := decide_eq_false (by omega)
  have HC := Lib.hid hc
  clear hc
  go_enter Tryz.func115, Tryz.ntmps115
  go_wp2
  go_loop [14] (fun i => ∃ k : Nat, k ≤ l.length ∧ i = .int .i64 k) (fun i => l.length - (intOf i).toNat)
  case atStart => exact ⟨0, by omega, rfl⟩
  case round =>
    obtain ⟨k, hk, rfl⟩ := hrel
    by_cases hlt : k < l.length
    · have hdec : decide ((k : Int) < (l.length : Int)) = true := decide_eq_true (by omega)
      have hdec' : decide (k < l.length) = true := decide_eq_true hlt
      have c1 : decide (bA l k < 33) = false := decide_eq_false (by have := HC.out k hlt; omega)
      have c2 : decide (126 < bA l k) = false := decide_eq_false (by have := HC.out k hlt; omega)
      go_wp2
      go_round
      case rel => exact ⟨k + 1, by omega, by go_num⟩
      case measure => simp [intOf]; omega
    · obtain rfl : k = l.length := by omega
      go_wp2
      go_ret
      exact ⟨rfl, rfl⟩
theorem zkey_calls (w : World) : Calls Tryz.prog 115 #[.string (bstr zT)] w fun e w' => e = .returned (.bool true) ∧ w = w' :=
  pkey_calls zT (by decide) (by decide) (fun k hk => by
    obtain rfl : k = 0 := by simp at hk; omega
    decide) w
theorem sindex_calls (A : Option Addr) (c : Nat) (t : ByteArray) (w : World) : Calls Tryz.prog 151 #[.slice A 0 c, .string t] w fun e w' => e = .returned (.int .i64 (-1)) ∧ w = w' := by
  go_enter Tryz.func151, Tryz.ntmps151
  go_wp2
  go_loop [8] (fun i => i = .int .i64 0) (fun _ => 0)
  case atStart => rfl
  case round =>
    subst hrel
    go_wp2
    go_ret
    exact ⟨rfl, rfl⟩
theorem scont_calls (A : Option Addr) (c : Nat) (t : ByteArray) (w : World) : Calls Tryz.prog 116 #[.slice A 0 c, .string t] w fun e w' => e = .returned (.bool false) ∧ w = w' := by
  go_enter Tryz.func116, Tryz.ntmps116
  go_wp2_with (go_at_call 151; (with_reducible refine (sindex_calls _ _ _ _).mono ?_); rintro e w1 ⟨rfl, rfl⟩)
  go_ret
  exact ⟨rfl, rfl⟩
set_option maxHeartbeats 800000 in
theorem zright_calls (no : Int) (h1 : 1 ≤ no) (h2 : no ≤ 1000) (g : Nat) (w : World) (hg : g < w.heap.size) (hc : w.cell? ⟨g, 0, none⟩ = some (.string (bstr zT))) :
    Calls Tryz.prog 70 #[.agg #[.int .i64 no, .slice (some ⟨g, 0, none⟩) 1 1, .bool true]] w fun e w' => e = .returned (.bool true) ∧ Below w.heap.size w w' := by
  have xb := Blk.new w 78 #[.int .i64 no, .slice (some ⟨g, 0, none⟩) 1 1, .bool true]
  have B1 : Below w.heap.size w (w.alloc (.cells #[.int .i64 no, .slice (some ⟨g, 0, none⟩) 1 1, .bool true] 78)) := (Below.refl _ _).alloc (Nat.le_refl _) _
  have c1 := (B1.cell (p := ⟨g, 0, none⟩) hg).trans hc
  have d1 : decide (no < 1) = false := decide_eq_false (by omega)
  have d2 : decide (1099511627776 < no) = false := decide_eq_false (by omega)
  have HB := Lib.hid B1
  clear hc B1
  go_enter Tryz.func70, Tryz.ntmps70
  go_wp2
  generalize w.alloc (.cells #[.int .i64 no, .slice (some ⟨g, 0, none⟩) 1 1, .bool true] 78) = w1 at *
  have g1 : w1.cell? ⟨w.heap.size, 1, none⟩ = some (.slice (some ⟨g, 0, none⟩) 1 1) := xb.at_ rfl
  clear xb d1 d2
  go_loop [28] (fun i => ∃ k : Nat, k ≤ 1 ∧ i = .int .i64 k) (fun i => 1 - (intOf i).toNat)
  case atStart => exact ⟨0, by omega, rfl⟩
  case round =>
    obtain ⟨k, hk, rfl⟩ := hrel
    rcases (show k = 0 ∨ k = 1 by omega) with rfl | rfl
    · go_wp2_with (first | (go_at_call 115; (with_reducible refine (zkey_calls _).mono ?_); rintro e w3 ⟨rfl, rfl⟩) | (go_at_call 116; (with_reducible refine (scont_calls _ _ _ _).mono ?_); rintro e w3 ⟨rfl, rfl⟩))
      go_round
      case rel => exact ⟨1, by omega, rfl⟩
      case measure => simp [intOf]
    · go_wp2
      go_ret
      exact ⟨rfl, HB.out⟩
attribute [local go_sem] bstr_add
theorem bstr_sp (a : List UInt8) (l : Array UInt8) : bstr a ++ (⟨l⟩ : ByteArray) = bstr (a ++ l.toList) := bstr_add a l.toList
theorem growk {w : World} {b i : Nat} {v : Value} (hc : w.cell? ⟨b, i, none⟩ = some v) : ∀ r, (grow w r).cell? ⟨b, i, none⟩ = some v := fun r => cell_bel (grow_below w r) hc
set_option maxHeartbeats 1600000 in
theorem ztext_calls (no : Int) (h1 : 1 ≤ no) (h2 : no ≤ 99) (g : Nat) (w : World) (base : Nat) (hG : Glob w base) (hb : base ≤ w.heap.size) (hg : g < w.heap.size) (hc : w.cell? ⟨g, 0, none⟩ = some (.string (bstr zT))) :
    Calls Tryz.prog 23 #[.agg #[.int .i64 no, .slice (some ⟨g, 0, none⟩) 1 1, .bool true]] w fun e w' => ∃ t, e = .returned (.tuple #[.string (bstr t), .int .i64 0]) ∧ t.length ≤ 109 ∧ Below w.heap.size w w' := by
  have xb := Blk.new w 78 #[.int .i64 no, .slice (some ⟨g, 0, none⟩) 1 1, .bool true]
  have B1 : Below w.heap.size w (w.alloc (.cells #[.int .i64 no, .slice (some ⟨g, 0, none⟩) 1 1, .bool true] 78)) := (Below.refl _ _).alloc (Nat.le_refl _) _
  have RC := zright_calls no h1 (by omega) g _ (Nat.lt_of_lt_of_le hg B1.size) ((B1.cell (p := ⟨g, 0, none⟩) hg).trans hc)
  go_enter Tryz.func23, Tryz.ntmps23
  go_wp2_with fail
  generalize w.alloc (.cells #[.int .i64 no, .slice (some ⟨g, 0, none⟩) 1 1, .bool true] 78) = w1 at *
  refine RC.mono ?_
  clear RC
  rintro e w2 ⟨rfl, b2⟩
  have B2 := B1.trans (b2.mono B1.size)
  have xb2 := xb.below b2 xb.lt
  have hc2 := (B2.cell (p := ⟨g, 0, none⟩) hg).trans hc
  have hI := itoa_4 no (by omega) h2
  have hJ : (Lib.join [zT] [32]).length ≤ 5 := join_le [zT] (fun t ht => by simp at ht; subst ht; decide)
  have rvz : RV w2 (some ⟨g, 0, none⟩) ([zT].map txV) := fun _ => ⟨g, 0, rfl, Nat.lt_of_lt_of_le hg B2.size, fun j u hu => by
    rcases j with _ | j
    · simp at hu; subst hu; exact hc2
    · simp at hu⟩
  have FC := fun r => fmt_calls no (by omega) (by omega) (grow w2 r) base ((hG.bel B2 hb).bel (grow_below w2 r) (Nat.le_trans hb B2.size))
  have JC := fun r => jjoin_calls [zT] (some ⟨g, 0, none⟩) 1 (grow w2 r) (rvz.below (grow_below w2 r)) (by decide) (by decide) (by decide) (fun t ht => by simp at ht; subst ht; decide)
  rw [show [zT].length = 1 from rfl] at JC
  have m0 := growk (xb2.at_ (i := 0) (v := .int .i64 no) rfl)
  have m1 := growk (xb2.at_ (i := 1) (v := .slice (some ⟨g, 0, none⟩) 1 1) rfl)
  have m2 : w2.cell? ⟨w.heap.size, 2, none⟩ = some (.bool true) := xb2.at_ rfl
  clear rvz hc2 xb2 xb
  generalize Lib.itoa no = I at *
  generalize Lib.join [zT] [32] = J at *
  have z1 : ¬ 9223372036854775807 < (bstr I).size + 6 := by rw [bstr_size]; omega
  have z3 : ¬ 9223372036854775807 < (bstr (I ++ [32, 104, 97, 114, 100, 32])).size + (bstr J).size := by rw [bstr_size, bstr_size, List.length_append]; simp; omega
  have sp := bstr_sp I
  go_wp2
  refine wp_region_grow (by kernel_rfl) (by kernel_rfl) ?_
  repeat (first | go_big_quiet_step (fail) | go_big_quiet_step (exact calls_grow (FC _)) | go_big_quiet_step (exact calls_grow (JC _)))
  refine wpQuiet_nil ?_
  rintro w' ⟨r, rfl⟩
  go_wp2
  go_ret2
  exact ⟨_, rfl, by simp; omega, B2.trans ((grow_below w2 r).mono B2.size)⟩
end Go.Proofs.YtendnkklbeiegaaGreatDoor
