/-
  The walks of the document's functions on spans that make no text.
-/
import Derived.Test.YtpcedmiehoimbaaDoorSpanMem
namespace Go.Proofs.YtpcedmiehoimbaaDoor
open Go.RowKit SpanP
theorem end_calls (w : World) : Calls Tryd.prog 35 #[] w fun e w' => e = .returned (.int .i64 4611686018427387904) ∧ Gr w w' := by
  go_enter Tryd.func35, Tryd.ntmps35
  go_wp2
  go_ret
  exact ⟨rfl, Gr.refl _⟩
theorem rright_calls (a b : Int) (w : World) : Calls Tryd.prog 14 #[.agg #[.int .i64 a, .int .i64 b]] w fun e w' => e = .returned (.bool (rightB a b)) ∧ Gr w w' := by
  have c0 := growc (new0 w (.int .i64 a) (.int .i64 b) 23)
  have c1 := growc (new1 w (.int .i64 a) (.int .i64 b) 23)
  have HG := ((Gr.refl w).alloc (.cells #[.int .i64 a, .int .i64 b] 23)).grow_
  go_enter Tryd.func14, Tryd.ntmps14
  go_wp2_with fail
  generalize w.alloc (.cells #[.int .i64 a, .int .i64 b] 23) = W at *
  by_cases h1 : 0 ≤ a
  · by_cases h2 : a ≤ b
    all_goals
      refine wp_region_grow (by kernel_rfl) (by kernel_rfl) ?_
      repeat (first | go_big_quiet_step (fail) | go_big_quiet_step (exact calls_grow (end_calls _)))
      refine wpQuiet_nil ?_
      rintro w' ⟨r, rfl⟩
      go_wp2
      go_ret
      exact ⟨congrArg (fun x => Ending.returned (Value.bool x)) (by unfold rightB; simp only [decide_eq_decide, Bool.false_eq, Bool.true_eq, decide_eq_false_iff_not, decide_eq_true_eq]; omega), HG r⟩
  · refine wp_region_grow (by kernel_rfl) (by kernel_rfl) ?_
    repeat (first | go_big_quiet_step (fail) | go_big_quiet_step (exact calls_grow (end_calls _)))
    refine wpQuiet_nil ?_
    rintro w' ⟨r, rfl⟩
    go_wp2
    go_ret
    exact ⟨congrArg (fun x => Ending.returned (Value.bool x)) (by unfold rightB; simp only [decide_eq_decide, Bool.false_eq, Bool.true_eq, decide_eq_false_iff_not, decide_eq_true_eq]; omega), HG r⟩
theorem rightB_t {a b : Int} (h : rightB a b = true) : 0 ≤ a ∧ a ≤ b ∧ b ≤ 4611686018427387904 := of_decide_eq_true h
theorem rightB_f {a b : Int} (h : rightB a b = false) : ¬ (0 ≤ a ∧ a ≤ b ∧ b ≤ 4611686018427387904) := of_decide_eq_false h
theorem rhas_calls (a b x : Int) (w : World) : Calls Tryd.prog 18 #[.agg #[.int .i64 a, .int .i64 b], .int .i64 x] w fun e w' => e = .returned (.bool (hasB a b x)) ∧ Gr w w' := by
  have c0 := new0 w (.int .i64 a) (.int .i64 b) 23
  have c1 := new1 w (.int .i64 a) (.int .i64 b) 23
  have HG := ((Gr.refl w).alloc (.cells #[.int .i64 a, .int .i64 b] 23))
  cases hr : rightB a b
  · go_enter Tryd.func18, Tryd.ntmps18
    go_wp2_with (go_at_call 14; refine (rright_calls _ _ _).mono ?_; rintro e w1 ⟨rfl, g1⟩)
    all_goals go_ret
    all_goals exact ⟨congrArg (fun x => Ending.returned (Value.bool x)) (by have := rightB_f hr; unfold hasB; simp only [decide_eq_decide, Bool.false_eq, Bool.true_eq, decide_eq_false_iff_not, decide_eq_true_eq]; omega), HG.trans g1⟩
  · go_enter Tryd.func18, Tryd.ntmps18
    go_wp2_with (go_at_call 14; refine (rright_calls _ _ _).mono ?_; rintro e w1 ⟨rfl, g1⟩; have d0 := g1.cell c0; have d1 := g1.cell c1)
    all_goals go_ret
    all_goals exact ⟨congrArg (fun x => Ending.returned (Value.bool x)) (by have := rightB_t hr; unfold hasB; simp only [decide_eq_decide, Bool.false_eq, Bool.true_eq, decide_eq_false_iff_not, decide_eq_true_eq]; omega), HG.trans g1⟩
theorem rlen_calls (a b : Int) (w : World) : Calls Tryd.prog 16 #[.agg #[.int .i64 a, .int .i64 b]] w fun e w' => e = .returned (.int .i64 (lenI a b)) ∧ Gr w w' := by
  have c0 := new0 w (.int .i64 a) (.int .i64 b) 23
  have c1 := new1 w (.int .i64 a) (.int .i64 b) 23
  have HG := ((Gr.refl w).alloc (.cells #[.int .i64 a, .int .i64 b] 23))
  cases hr : rightB a b
  · go_enter Tryd.func16, Tryd.ntmps16
    go_wp2_with (go_at_call 14; refine (rright_calls _ _ _).mono ?_; rintro e w1 ⟨rfl, g1⟩)
    go_ret
    exact ⟨by simp [lenI, rightB_f hr], HG.trans g1⟩
  · go_enter Tryd.func16, Tryd.ntmps16
    go_wp2_with (go_at_call 14; refine (rright_calls _ _ _).mono ?_; rintro e w1 ⟨rfl, g1⟩)
    have hb := rightB_t hr
    obtain ⟨hb1, hb2, hb3⟩ := hb
    have d0 := growc (g1.cell c0)
    have d1 := growc (g1.cell c1)
    have HG1 := (HG.trans g1).grow_
    have HL : Hid (lenI a b = if b = 4611686018427387904 ∧ a ≠ 4611686018427387904 then 4611686018427387904 else b - a) := if_pos ⟨hb1, hb2, hb3⟩
    clear c0 c1 HG g1
    by_cases h1 : b = 4611686018427387904
    · have e1 : (b == 4611686018427387904) = true := beq_iff_eq.2 h1
      by_cases h2 : a = 4611686018427387904
      · have e2 : (a != 4611686018427387904) = false := by simpa using h2
        have HE : Hid (lenI a b = b - a) := by show _ = _; rw [HL.out, if_neg (by omega)]
        clear HL h1 h2
        refine wp_region_grow (by kernel_rfl) (by kernel_rfl) ?_
        repeat (first | go_big_quiet_step (fail) | go_big_quiet_step (exact calls_grow (end_calls _)))
        refine wpQuiet_nil ?_
        rintro w' ⟨r, rfl⟩
        go_wp2
        go_ret
        exact ⟨by rw [HE.out]; rfl, HG1 r⟩
      · have e2 : (a != 4611686018427387904) = true := by simpa using h2
        have HE : Hid (lenI a b = 4611686018427387904) := by show _ = _; rw [HL.out, if_pos ⟨h1, h2⟩]
        clear HL h1 h2
        refine wp_region_grow (by kernel_rfl) (by kernel_rfl) ?_
        repeat (first | go_big_quiet_step (fail) | go_big_quiet_step (exact calls_grow (end_calls _)))
        refine wpQuiet_nil ?_
        rintro w' ⟨r, rfl⟩
        go_wp2
        go_ret
        exact ⟨by rw [HE.out]; rfl, HG1 r⟩
    · have e1 : (b == 4611686018427387904) = false := by simpa using h1
      have HE : Hid (lenI a b = b - a) := by show _ = _; rw [HL.out, if_neg (by omega)]
      clear HL
      refine wp_region_grow (by kernel_rfl) (by kernel_rfl) ?_
      repeat (first | go_big_quiet_step (fail) | go_big_quiet_step (exact calls_grow (end_calls _)))
      refine wpQuiet_nil ?_
      rintro w' ⟨r, rfl⟩
      go_wp2
      go_ret
      exact ⟨by rw [HE.out]; rfl, HG1 r⟩
end Go.Proofs.YtpcedmiehoimbaaDoor
