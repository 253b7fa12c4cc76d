/-
  awake(): the answers that the document fixes.
-/
import Derived.Test.YtpcedmiehoimbaaDoorSpanWalkD
import Derived.Test.YtpcedmiehoimbaaDoorSpanWalkF
import Derived.Test.YtpcedmiehoimbaaDoorSpanParse
namespace Go.Proofs.YtpcedmiehoimbaaDoor
open Go.RowKit SpanP
section
variable {w w' : World} {g : Nat} {t : TypeId} {cs : Array Value} {o o' : Obj}
theorem Blk.gr (h : Blk w g t cs) (k : Gr w w') : Blk w' g t cs := h.below k h.lt
theorem Blk.step1 (h : Blk w g t cs) (k : Gr (w.alloc o) w') : Blk w' g t cs := (h.alloc o).gr k
theorem Blk.step2 (h : Blk w g t cs) (k : Gr ((w.alloc o).alloc o') w') : Blk w' g t cs := ((h.alloc o).alloc o').gr k
theorem Blk.new1 (k : Gr (w.alloc (.cells cs t)) w') : Blk w' w.heap.size t cs := (Blk.new w t cs).gr k
theorem Blk.new2 (k : Gr ((w.alloc (.cells cs t)).alloc o) w') : Blk w' w.heap.size t cs := ((Blk.new w t cs).alloc o).gr k
theorem Blk.new3 (k : Gr ((w.alloc o).alloc (.cells cs t)) w') : Blk w' (w.heap.size + 1) t cs := by
  have h := (Blk.new (w.alloc o) t cs).gr k
  simpa using h
theorem Gr.step1 (k : Gr (w.alloc o) w') : Gr w w' := ((Gr.refl w).alloc o).trans k
theorem Gr.step2 (k : Gr ((w.alloc o).alloc o') w') : Gr w w' := (((Gr.refl w).alloc o).alloc o').trans k
end
theorem txt_39 : textL 3 9 = [51, 45, 57] := by decide +kernel
theorem par_3 : parF [51, 45] = 3 ∧ parT [51, 45] = 4611686018427387904 ∧ parE [51, 45] = 0 := by decide +kernel
theorem aw_align (w : World) : Calls Tryd.prog 28 #[.agg #[.int .i64 3, .int .i64 9], .int .i64 4] w fun e w' => e = .returned (.tuple #[.agg #[.int .i64 0, .int .i64 12], .int .i64 0]) ∧ Gr w w' := by
  refine (salign_calls 3 9 4 w).mono ?_
  rintro e w' ⟨rfl, g⟩
  exact ⟨by kernel_rfl, g⟩
theorem aw_cut (w : World) : Calls Tryd.prog 26 #[.agg #[.int .i64 3, .int .i64 9], .int .i64 5] w fun e w' => e = .returned (.tuple #[.agg #[.int .i64 3, .int .i64 5], .agg #[.int .i64 5, .int .i64 9]]) ∧ Gr w w' := by
  refine (scut_calls 3 9 5 w).mono ?_
  rintro e w' ⟨rfl, g⟩
  exact ⟨by kernel_rfl, g⟩
theorem aw_meet (w : World) : Calls Tryd.prog 19 #[.agg #[.int .i64 3, .int .i64 9], .agg #[.int .i64 8, .int .i64 20]] w fun e w' => e = .returned (.tuple #[.agg #[.int .i64 8, .int .i64 9], .bool true]) ∧ Gr w w' := by
  refine (smeet_calls 3 9 8 20 w).mono ?_
  rintro e w' ⟨rfl, g⟩
  exact ⟨by kernel_rfl, g⟩
theorem aw_join (w : World) : Calls Tryd.prog 23 #[.agg #[.int .i64 3, .int .i64 9], .agg #[.int .i64 9, .int .i64 10]] w fun e w' => e = .returned (.tuple #[.agg #[.int .i64 3, .int .i64 10], .bool true]) ∧ Gr w w' := by
  refine (sjoin_calls 3 9 9 10 w).mono ?_
  rintro e w' ⟨rfl, g⟩
  exact ⟨by kernel_rfl, g⟩
theorem aw_right (w : World) : Calls Tryd.prog 13 #[.agg #[.int .i64 3, .int .i64 9]] w fun e w' => e = .returned (.bool true) ∧ Gr w w' := by
  refine (sright_calls 3 9 w).mono ?_
  rintro e w' ⟨rfl, g⟩
  exact ⟨by kernel_rfl, g⟩
theorem aw_len1 (w : World) : Calls Tryd.prog 15 #[.agg #[.int .i64 3, .int .i64 9]] w fun e w' => e = .returned (.int .i64 6) ∧ Gr w w' := by
  refine (slen_calls 3 9 w).mono ?_
  rintro e w' ⟨rfl, g⟩
  exact ⟨by kernel_rfl, g⟩
theorem aw_len2 (w : World) : Calls Tryd.prog 15 #[.agg #[.int .i64 3, .int .i64 4611686018427387904]] w fun e w' => e = .returned (.int .i64 4611686018427387904) ∧ Gr w w' := by
  refine (slen_calls 3 4611686018427387904 w).mono ?_
  rintro e w' ⟨rfl, g⟩
  exact ⟨by kernel_rfl, g⟩
theorem aw_has1 (w : World) : Calls Tryd.prog 17 #[.agg #[.int .i64 3, .int .i64 9], .int .i64 3] w fun e w' => e = .returned (.bool true) ∧ Gr w w' := by
  refine (shas_calls 3 9 3 w).mono ?_
  rintro e w' ⟨rfl, g⟩
  exact ⟨by kernel_rfl, g⟩
theorem aw_has2 (w : World) : Calls Tryd.prog 17 #[.agg #[.int .i64 3, .int .i64 9], .int .i64 9] w fun e w' => e = .returned (.bool false) ∧ Gr w w' := by
  refine (shas_calls 3 9 9 w).mono ?_
  rintro e w' ⟨rfl, g⟩
  exact ⟨by kernel_rfl, g⟩
theorem aw_within (w : World) : Calls Tryd.prog 21 #[.agg #[.int .i64 3, .int .i64 9], .agg #[.int .i64 3, .int .i64 4611686018427387904]] w fun e w' => e = .returned (.bool true) ∧ Gr w w' := by
  refine (swithin_calls 3 9 3 4611686018427387904 w).mono ?_
  rintro e w' ⟨rfl, g⟩
  exact ⟨by kernel_rfl, g⟩
theorem aw_touch (w : World) : Calls Tryd.prog 25 #[.agg #[.int .i64 3, .int .i64 9], .agg #[.int .i64 3, .int .i64 4611686018427387904]] w fun e w' => e = .returned (.bool true) ∧ Gr w w' := by
  refine (stouch_calls 3 9 3 4611686018427387904 w).mono ?_
  rintro e w' ⟨rfl, g⟩
  exact ⟨by kernel_rfl, g⟩
theorem aw_parse (w : World) (hS : Std w) : Calls Tryd.prog 32 #[.string ⟨#[51, 45]⟩] w fun e w' => e = .returned (.tuple #[.agg #[.int .i64 3, .int .i64 4611686018427387904], .int .i64 0]) ∧ Gr w w' := by
  refine (sparse_calls [51, 45] (by simp) w hS).mono ?_
  rintro e w' ⟨rfl, g⟩
  exact ⟨by rw [par_3.1, par_3.2.1, par_3.2.2], g⟩
theorem aw_text (w : World) (hS : Std w) : Calls Tryd.prog 30 #[.agg #[.int .i64 3, .int .i64 9]] w fun e w' => e = .returned (.string ⟨#[51, 45, 57]⟩) ∧ Gr w w' := by
  refine (stext_calls 3 9 w hS).mono ?_
  rintro e w' ⟨rfl, g⟩
  exact ⟨by rw [txt_39]; rfl, g⟩
set_option maxHeartbeats 3200000 in
theorem awake_calls (w : World) (hS : Std w) : Calls Tryd.prog 12 #[] w fun e w' => e = .returned (.bool true) ∧ Gr w w' := by
  have S0 := hS
  have G0 := Gr.refl w
  go_enter Tryd.func12, Tryd.ntmps12
  go_wp2_with (first | (go_at_call 28; refine (aw_align _).mono ?_; rintro e w1 ⟨rfl, g1⟩; have S1 := S0.gr g1.step2; have G1 := G0.trans g1.step2; have bs := Blk.new2 g1; have bo := Blk.new3 g1; have c10 : ∀ o0, (w1.alloc o0).cell? ⟨w.heap.size, 0, none⟩ = some (.int .i64 3) := fun o0 => (bs.alloc o0).at_ rfl; have c11 : ∀ o0, (w1.alloc o0).cell? ⟨w.heap.size, 1, none⟩ = some (.int .i64 9) := fun o0 => (bs.alloc o0).at_ rfl) | (go_at_call 26; refine (aw_cut _).mono ?_; rintro e w2 ⟨rfl, g2⟩; have S2 := S1.gr g2.step1; have G2 := G1.trans g2.step1; replace bs := bs.step1 g2; replace bo := bo.step1 g2; have ba := Blk.new1 g2; have c20 : ∀ o0 o1, ((w2.alloc o0).alloc o1).cell? ⟨w.heap.size, 0, none⟩ = some (.int .i64 3) := fun o0 o1 => ((bs.alloc o0).alloc o1).at_ rfl; have c21 : ∀ o0 o1, ((w2.alloc o0).alloc o1).cell? ⟨w.heap.size, 1, none⟩ = some (.int .i64 9) := fun o0 o1 => ((bs.alloc o0).alloc o1).at_ rfl) | (go_at_call 32; refine (aw_parse _ (S2.gr (((Gr.refl _).alloc _).alloc _))).mono ?_; rintro e w3 ⟨rfl, g3⟩; have S3 := S2.gr g3.step2; have G3 := G2.trans g3.step2; replace bs := bs.step2 g3; replace bo := bo.step2 g3; replace ba := ba.step2 g3; have bb := Blk.new2 g3; have bc := Blk.new3 g3; have c30 : ∀ o0, (w3.alloc o0).cell? ⟨w.heap.size, 0, none⟩ = some (.int .i64 3) := fun o0 => (bs.alloc o0).at_ rfl; have c31 : ∀ o0, (w3.alloc o0).cell? ⟨w.heap.size, 1, none⟩ = some (.int .i64 9) := fun o0 => (bs.alloc o0).at_ rfl) | (go_at_call 19; refine (aw_meet _).mono ?_; rintro e w4 ⟨rfl, g4⟩; have S4 := S3.gr g4.step1; have G4 := G3.trans g4.step1; replace bs := bs.step1 g4; replace bo := bo.step1 g4; replace ba := ba.step1 g4; replace bb := bb.step1 g4; replace bc := bc.step1 g4; have bd := Blk.new1 g4; have c40 : ∀ o0, (w4.alloc o0).cell? ⟨w.heap.size, 0, none⟩ = some (.int .i64 3) := fun o0 => (bs.alloc o0).at_ rfl; have c41 : ∀ o0, (w4.alloc o0).cell? ⟨w.heap.size, 1, none⟩ = some (.int .i64 9) := fun o0 => (bs.alloc o0).at_ rfl) | (go_at_call 23; refine (aw_join _).mono ?_; rintro e w5 ⟨rfl, g5⟩; have S5 := S4.gr g5.step1; have G5 := G4.trans g5.step1; replace bs := bs.step1 g5; replace bo := bo.step1 g5; replace ba := ba.step1 g5; replace bb := bb.step1 g5; replace bc := bc.step1 g5; replace bd := bd.step1 g5; have bm := Blk.new1 g5; have c50 : ∀ o0, (w5.alloc o0).cell? ⟨w.heap.size, 0, none⟩ = some (.int .i64 3) := fun o0 => (bs.alloc o0).at_ rfl; have c51 : ∀ o0, (w5.alloc o0).cell? ⟨w.heap.size, 1, none⟩ = some (.int .i64 9) := fun o0 => (bs.alloc o0).at_ rfl) | (go_at_call 13; refine (aw_right _).mono ?_; rintro e w6 ⟨rfl, g6⟩; have S6 := S5.gr g6.step1; have G6 := G5.trans g6.step1; replace bs := bs.step1 g6; replace bo := bo.step1 g6; replace ba := ba.step1 g6; replace bb := bb.step1 g6; replace bc := bc.step1 g6; replace bd := bd.step1 g6; replace bm := bm.step1 g6; have bj := Blk.new1 g6; have d6bs0 := bs.at_ (i := 0) (v := .int .i64 3) rfl; have d6bs1 := bs.at_ (i := 1) (v := .int .i64 9) rfl) | (go_at_call 15; have _q := S7; refine (aw_len2 _).mono ?_; rintro e w8 ⟨rfl, g8⟩; have S8 := S7.gr g8; have G8 := G7.trans g8; replace bs := bs.gr g8; replace bo := bo.gr g8; replace ba := ba.gr g8; replace bb := bb.gr g8; replace bc := bc.gr g8; replace bd := bd.gr g8; replace bm := bm.gr g8; replace bj := bj.gr g8; have d8bs0 := bs.at_ (i := 0) (v := .int .i64 3) rfl; have d8bs1 := bs.at_ (i := 1) (v := .int .i64 9) rfl) | (go_at_call 15; refine (aw_len1 _).mono ?_; rintro e w7 ⟨rfl, g7⟩; have S7 := S6.gr g7; have G7 := G6.trans g7; replace bs := bs.gr g7; replace bo := bo.gr g7; replace ba := ba.gr g7; replace bb := bb.gr g7; replace bc := bc.gr g7; replace bd := bd.gr g7; replace bm := bm.gr g7; replace bj := bj.gr g7; have d7bo0 := bo.at_ (i := 0) (v := .int .i64 3) rfl; have d7bo1 := bo.at_ (i := 1) (v := .int .i64 4611686018427387904) rfl) | (go_at_call 17; have _q := S9; refine (aw_has2 _).mono ?_; rintro e w10 ⟨rfl, g10⟩; have S10 := S9.gr g10; have G10 := G9.trans g10; replace bs := bs.gr g10; replace bo := bo.gr g10; replace ba := ba.gr g10; replace bb := bb.gr g10; replace bc := bc.gr g10; replace bd := bd.gr g10; replace bm := bm.gr g10; replace bj := bj.gr g10; have d10bs0 := bs.at_ (i := 0) (v := .int .i64 3) rfl; have d10bs1 := bs.at_ (i := 1) (v := .int .i64 9) rfl; have d10ba0 := ba.at_ (i := 0) (v := .int .i64 0) rfl; have d10ba1 := ba.at_ (i := 1) (v := .int .i64 12) rfl; have d10bb0 := bb.at_ (i := 0) (v := .int .i64 3) rfl; have d10bb1 := bb.at_ (i := 1) (v := .int .i64 5) rfl; have d10bc0 := bc.at_ (i := 0) (v := .int .i64 5) rfl; have d10bc1 := bc.at_ (i := 1) (v := .int .i64 9) rfl; have d10bd0 := bd.at_ (i := 0) (v := .int .i64 3) rfl; have d10bd1 := bd.at_ (i := 1) (v := .int .i64 4611686018427387904) rfl; have d10bo0 := bo.at_ (i := 0) (v := .int .i64 3) rfl; have d10bo1 := bo.at_ (i := 1) (v := .int .i64 4611686018427387904) rfl) | (go_at_call 17; refine (aw_has1 _).mono ?_; rintro e w9 ⟨rfl, g9⟩; have S9 := S8.gr g9; have G9 := G8.trans g9; replace bs := bs.gr g9; replace bo := bo.gr g9; replace ba := ba.gr g9; replace bb := bb.gr g9; replace bc := bc.gr g9; replace bd := bd.gr g9; replace bm := bm.gr g9; replace bj := bj.gr g9; have d9bs0 := bs.at_ (i := 0) (v := .int .i64 3) rfl; have d9bs1 := bs.at_ (i := 1) (v := .int .i64 9) rfl) | (go_at_call 30; refine (aw_text _ S10).mono ?_; rintro e w11 ⟨rfl, g11⟩; have S11 := S10.gr g11; have G11 := G10.trans g11; replace bs := bs.gr g11; replace bo := bo.gr g11; replace ba := ba.gr g11; replace bb := bb.gr g11; replace bc := bc.gr g11; replace bd := bd.gr g11; replace bm := bm.gr g11; replace bj := bj.gr g11; have d11bs0 := bs.at_ (i := 0) (v := .int .i64 3) rfl; have d11bs1 := bs.at_ (i := 1) (v := .int .i64 9) rfl; have d11bo0 := bo.at_ (i := 0) (v := .int .i64 3) rfl; have d11bo1 := bo.at_ (i := 1) (v := .int .i64 4611686018427387904) rfl; have d11bm0 := bm.at_ (i := 0) (v := .int .i64 8) rfl; have d11bm1 := bm.at_ (i := 1) (v := .int .i64 9) rfl; have d11bj0 := bj.at_ (i := 0) (v := .int .i64 3) rfl; have d11bj1 := bj.at_ (i := 1) (v := .int .i64 10) rfl) | (go_at_call 21; refine (aw_within _).mono ?_; rintro e w12 ⟨rfl, g12⟩; have S12 := S11.gr g12; have G12 := G11.trans g12; replace bs := bs.gr g12; replace bo := bo.gr g12; replace ba := ba.gr g12; replace bb := bb.gr g12; replace bc := bc.gr g12; replace bd := bd.gr g12; replace bm := bm.gr g12; replace bj := bj.gr g12; have d12bs0 := bs.at_ (i := 0) (v := .int .i64 3) rfl; have d12bs1 := bs.at_ (i := 1) (v := .int .i64 9) rfl; have d12bo0 := bo.at_ (i := 0) (v := .int .i64 3) rfl; have d12bo1 := bo.at_ (i := 1) (v := .int .i64 4611686018427387904) rfl) | (go_at_call 25; refine (aw_touch _).mono ?_; rintro e w13 ⟨rfl, g13⟩; have S13 := S12.gr g13; have G13 := G12.trans g13; replace bs := bs.gr g13; replace bo := bo.gr g13; replace ba := ba.gr g13; replace bb := bb.gr g13; replace bc := bc.gr g13; replace bd := bd.gr g13; replace bm := bm.gr g13; replace bj := bj.gr g13))
  all_goals go_ret
  all_goals exact ⟨rfl, G13⟩
end Go.Proofs.YtpcedmiehoimbaaDoor
