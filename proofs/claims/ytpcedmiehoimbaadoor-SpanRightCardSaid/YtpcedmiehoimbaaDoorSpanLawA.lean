/-
  The walks of the statements on spans that make no text.
-/
import Derived.Test.YtpcedmiehoimbaaDoorSpanAwake
namespace Go.Proofs.YtpcedmiehoimbaaDoor
open Go.RowKit SpanP
set_option maxHeartbeats 1600000 in
theorem spanRight_walk (a b x : Int) (w : World) (hS : Std w) : Calls Tryd.prog 3 #[.agg #[.int .i64 a, .int .i64 b], .int .i64 x] w fun e w' => e = .returned (.bool true) ∧ Gr w w' := by
  have B0 := Blk.new w 23 #[.int .i64 a, .int .i64 b]
  have g0 : Gr w (w.alloc (.cells #[.int .i64 a, .int .i64 b] 23)) := (Gr.refl w).alloc _
  have s0 := hS.gr g0
  go_enter Tryd.func3, Tryd.ntmps3
  go_wp2_with (fail)
  have c0 := growc (B0.at_ (i := 0) (v := .int .i64 a) rfl)
  have c1 := growc (B0.at_ (i := 1) (v := .int .i64 b) rfl)
  refine wp_region_grow (by kernel_rfl) (by kernel_rfl) ?_
  repeat (first | go_big_quiet_step (fail) | go_big_quiet_step (first | exact calls_grow (awake_calls _ (s0.gr (grow_below _ _))) | exact calls_grow (sright_calls _ _ _) | exact calls_grow (rright_calls _ _ _) | exact calls_grow (slen_calls _ _ _) | exact calls_grow (rlen_calls _ _ _) | exact calls_grow (shas_calls _ _ _ _) | exact calls_grow (rhas_calls _ _ _ _)))
  refine wpQuiet_nil ?_
  rintro w' ⟨r, rfl⟩
  go_wp2
  go_ret
  exact ⟨rfl, g0.grow_ r⟩
end Go.Proofs.YtpcedmiehoimbaaDoor
