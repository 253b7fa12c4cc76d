/-
  The document's All, at two spans: numbers, in a row of the call's own.
-/
import Derived.Test.YtpcedmiehoimbaaDoorSpanWalkB
import Derived.Test.YtpcedmiehoimbaaDoorMem2
import Derived.Test.YtpcedmiehoimbaaDoorMem3
import Derived.Deep.RegionHeldLaw
namespace Go.Proofs.YtpcedmiehoimbaaDoor
open Go.RowKit SpanP
theorem info_i64 : (Tryd.prog.info? 2).map (fun i => (i.zero, i.size, i.bytes)) = some (some (.int .i64 0), 1, 8) := by kernel_rfl
theorem el_i64 : El Tryd.prog 39 2 (.int .i64 0) 1 8 := ⟨info_parts info_i64, Tryd.underlying39, rfl, by decide⟩
/-- append of what can be read onto a row of the call's own, as one step of a region that draws. -/
theorem step_append_rv {P : Program} {w : World} {base : Nat} {t e : TypeId} {z : Value} {size bytes n m c : Nat} {v : Value} {xs news : List Value} {A : Option Addr} {ops : Array Oper} {o : Oper} {a : Act} {K : Act → World → Prop} {Q : Exit → Act → World → Prop} {E : Prop}
    (El0 : El P t e z size bytes) (hg : o.guard = none) (s x : Operand)
    (ho : o.op = .call { callee := .builtin .append, args := #[s, x], argTypes := #[t, t] })
    (hs : a.eval s = v) (hown : w.ownsRow base e size v n xs)
    (hx : a.eval x = .slice A m c) (hl : news.length = m * size) (hr : RV w A news) (h1 : ∀ u ∈ news, u.oneCell' = true)
    (h63 : n + m ≤ maxLen) (hbytes : (n + m) * bytes ≤ 140737488355328) (hbase : base ≤ w.heap.size)
    (hK : ∀ v' w', w'.ownsRow base e size v' (n + m) (xs ++ news) → w.grownBy w' v.ownBlock → (v'.ownBlock = v.ownBlock ∨ v'.ownBlock = some w.heap.size) → K (a.put o.dst v') w') :
    if Region.wanted o (yielded ops a.tmps) = true then Oper.wp P o a w K Q else E := by
  have hw : Region.wanted o (yielded ops a.tmps) = true := by simp [Region.wanted, hg]
  rw [if_pos hw]
  obtain ⟨v', w', hrun, h2, h3, h4⟩ := run_append_rv (P := P) (w := w) (ty := o.type) (c := c) El0 hown hl hr h1 h63 hbytes hbase
  unfold Oper.wp execOp
  simp only [ho, resolve, invoke, builtin, Sem.run_bind, Sem.run_pure, Result.andThen_ok, List.map_toArray, List.map_cons, List.map_nil, hs, hx, hrun]
  exact hK _ _ h2 h3 h4
/-- Numbers in a row of the call's own. -/
def Out (w : World) (n : Nat) (v : Value) (wr : World) : Prop := ∃ xs, wr.ownsRow w.heap.size 2 1 v n xs ∧ (∀ u ∈ xs, ∃ x : Int, u = .int .i64 x) ∧ Gr w wr
theorem Out.g {w wr : World} {n : Nat} {v : Value} (h : Out w n v wr) : Gr w wr := by
  obtain ⟨_, _, _, G⟩ := h
  exact G
theorem Out.gr {w wr w' : World} {n : Nat} {v : Value} (h : Out w n v wr) (g : Gr wr w') : Out w n v w' := by
  obtain ⟨xs, own, ints, G⟩ := h
  exact ⟨xs, own_below own g (fun k hk => (own.lt k hk).2), ints, G.trans g⟩
theorem Out.app {w wr w1 : World} {n m : Nat} {v v1 : Value} {xs ys : List Value} {o : Obj} (own : wr.ownsRow w.heap.size 2 1 v n xs) (ints : ∀ u ∈ xs, ∃ x : Int, u = .int .i64 x) (G : Gr w wr) (hy : ∀ u ∈ ys, ∃ x : Int, u = .int .i64 x)
    (own1 : w1.ownsRow w.heap.size 2 1 v1 (n + m) (xs ++ ys)) (gr : (wr.alloc o).drew.grownBy w1 v.ownBlock) : Out w (n + m) v1 w1 := by
  have gr : (wr.alloc o).grownBy w1 v.ownBlock := ⟨gr.os, gr.tape, gr.output, gr.size, gr.block⟩
  refine ⟨_, own1, fun u hu => ?_, Below.grown (Gr.alloc G o) gr (by have := Below.size G; simp; omega) (fun k hk => (own.lt k hk).1)⟩
  rcases List.mem_append.1 hu with h | h
  · exact ints u h
  · exact hy u h
theorem ints2 (x y : Int) : ∀ u ∈ [Value.int .i64 x, .int .i64 y], ∃ x : Int, u = .int .i64 x := by
  intro u hu
  simp at hu
  rcases hu with rfl | rfl
  · exact ⟨_, rfl⟩
  · exact ⟨_, rfl⟩
theorem one2 (x y : Int) : ∀ u ∈ [Value.int .i64 x, .int .i64 y], u.oneCell' = true := by
  intro u hu
  simp at hu
  rcases hu with rfl | rfl <;> rfl
theorem end_is (w : World) : Calls Tryd.prog 35 #[] w fun e w' => e = .returned (.int .i64 4611686018427387904) ∧ w = w' := by
  go_enter Tryd.func35, Tryd.ntmps35
  go_wp2
  go_ret
  exact ⟨rfl, rfl⟩
/-- What it gives back. -/
def RetOut (w : World) (e : Ending) (w' : World) : Prop := ∃ n v, e = .returned v ∧ n ≤ 15 ∧ Out w n v w'
set_option maxHeartbeats 6400000 in
set_option maxRecDepth 100000 in
theorem all_calls (a b c d : Int) (g : Nat) (w : World) (hB : Blk w g 23 #[.int .i64 a, .int .i64 b, .int .i64 c, .int .i64 d]) : Calls Tryd.prog 34 #[.slice (some ⟨g, 0, none⟩) 2 2] w (RetOut w) := by
  have own0 : (w.alloc (.cells #[.int .i64 0, .int .i64 1, .int .i64 4611686018427387903] 2)).ownsRow w.heap.size 2 1 (.slice (some ⟨w.heap.size, 0, none⟩) 3 3) 3 [.int .i64 0, .int .i64 1, .int .i64 4611686018427387903] := World.ownsRow_lit w #[.int .i64 0, .int .i64 1, .int .i64 4611686018427387903] 3 (Nat.le_refl _) (by decide) rfl
  have O0 : Hid (Out w 3 (.slice (some ⟨w.heap.size, 0, none⟩) 3 3) (w.alloc (.cells #[.int .i64 0, .int .i64 1, .int .i64 4611686018427387903] 2))) := ⟨_, own0, fun u hu => (by simp at hu; rcases hu with rfl | rfl | rfl <;> exact ⟨_, rfl⟩), (Gr.refl w).alloc _⟩
  clear own0
  go_enter Tryd.func34, Tryd.ntmps34
  go_wp2_with (go_at_call 35; refine (end_is _).mono ?_; rintro e we ⟨rfl, rfl⟩)
  go_loopw [3, 4] (fun v i wr => ∃ k n : Nat, k ≤ 2 ∧ i = .int .i64 k ∧ n ≤ 3 + 6 * k ∧ Out w n v wr) (fun _ i _ => 2 - (intOf i).toNat)
  case atStart => exact ⟨0, 3, by omega, rfl, by omega, O0.out⟩
  case round =>
    obtain ⟨k, n, hk, rfl, hn, O⟩ := hrel
    clear O0
    have hcase : k = 0 ∨ k = 1 ∨ k = 2 := by omega
    rcases hcase with rfl | rfl | rfl
    · by_cases h1a : -9 < a
      · by_cases h1b : a < 4611686018427387904
        · have q1 : decide (-9 < a) = true := decide_eq_true h1a
          have q2 : decide (a < 4611686018427387904) = true := decide_eq_true h1b
          by_cases h2a : -9 < b
          · by_cases h2b : b < 4611686018427387904
            · have q3 : decide (-9 < b) = true := decide_eq_true h2a
              have q4 : decide (b < 4611686018427387904) = true := decide_eq_true h2b
              obtain ⟨xs0, own0, ints0, G0⟩ := O
              have B0 := hB.below G0 hB.lt
              have c00 : wr.cell? ⟨g, 0, none⟩ = some (.int .i64 a) := B0.at_ rfl
              have e00 : ∀ o, (wr.alloc o).cell? ⟨g, 0, none⟩ = some (.int .i64 a) := fun o => (B0.alloc o).at_ rfl
              have c01 : wr.cell? ⟨g, 1, none⟩ = some (.int .i64 b) := B0.at_ rfl
              have e01 : ∀ o, (wr.alloc o).cell? ⟨g, 1, none⟩ = some (.int .i64 b) := fun o => (B0.alloc o).at_ rfl
              have rv0 : RV (wr.alloc (.cells #[.int .i64 (a), .int .i64 (b)] 2)).drew (some ⟨wr.heap.size, 0, none⟩) [.int .i64 (a), .int .i64 (b)] := RV.new wr [.int .i64 (a), .int .i64 (b)] 2 (0, 0)
              have z0 := Below.size G0
              have HO0 := Lib.hid own0
              have HI0 := Lib.hid ints0
              clear own0 ints0
              go_wp2
              go_region_held_law (fun wq => wq.cell? ⟨g, 0, none⟩ = some (.int .i64 a) ∧ wq.cell? ⟨g, 1, none⟩ = some (.int .i64 b)) (first | exact ⟨c00, c01⟩ | exact ⟨e00 _, e01 _⟩ | exact ⟨k00, k01⟩) ((refine step_append_rv (A := some ⟨wr.heap.size, 0, none⟩) (m := 2) (c := 2) (v := _) (news := [.int .i64 (a), .int .i64 (b)]) el_i64 rfl (.tmp 14) (.tmp 25) rfl rfl ((HO0.out.alloc _).drew) rfl rfl rv0 (one2 _ _) (by unfold maxLen; omega) (by omega) (by simp; omega) ?_; intro v0 w0 own0' gr0 hv0; (have O0 := Lib.hid (Out.app HO0.out HI0.out G0 (ints2 _ _) own0' gr0)); (have K0 := hB.below O0.out.g hB.lt); (have k00 := K0.at_ (i := 0) (v := .int .i64 a) rfl); (have k01 := K0.at_ (i := 1) (v := .int .i64 b) rfl); clear K0 own0' gr0 hv0))
              go_simp
              have O := O0.out
              clear rv0 HO0 HI0 B0 c00 e00 k00 c01 e01 k01
              obtain ⟨xs1, own1, ints1, G1⟩ := O
              have O : Out w _ _ w0 := ⟨xs1, own1, ints1, G1⟩
              have B1 := hB.below G1 hB.lt
              have m1 := growc (B1.at_ (i := 0) (v := .int .i64 a) rfl)
              replace O := Lib.hid O
              clear own1 ints1
              go_wp2
              refine wp_region_grow (by kernel_rfl) (by kernel_rfl) ?_
              repeat (first | go_big_quiet_step (fail) | go_big_quiet_step (exact calls_grow (end_calls _)))
              refine wpQuiet_nil ?_
              rintro w' ⟨r, rfl⟩
              replace O := O.out.gr (grow_below w0 r)
              clear m1 B1
              generalize grow w0 r = w1 at *
              obtain ⟨xs2, own2, ints2, G2⟩ := O
              have B2 := hB.below G2 hB.lt
              have c20 : w1.cell? ⟨g, 0, none⟩ = some (.int .i64 a) := B2.at_ rfl
              have e20 : ∀ o, (w1.alloc o).cell? ⟨g, 0, none⟩ = some (.int .i64 a) := fun o => (B2.alloc o).at_ rfl
              have rv2 : RV (w1.alloc (.cells #[.int .i64 (IntKind.i64.wrap (a - 1)), .int .i64 (IntKind.i64.wrap (a + 1))] 2)).drew (some ⟨w1.heap.size, 0, none⟩) [.int .i64 (IntKind.i64.wrap (a - 1)), .int .i64 (IntKind.i64.wrap (a + 1))] := RV.new w1 [.int .i64 (IntKind.i64.wrap (a - 1)), .int .i64 (IntKind.i64.wrap (a + 1))] 2 (0, 0)
              have z2 := Below.size G2
              have HO2 := Lib.hid own2
              have HI2 := Lib.hid ints2
              clear own2 ints2
              go_wp2
              go_region_held_law (fun wq => wq.cell? ⟨g, 0, none⟩ = some (.int .i64 a)) (first | exact c20 | exact e20 _ | exact k20) ((refine step_append_rv (A := some ⟨w1.heap.size, 0, none⟩) (m := 2) (c := 2) (v := _) (news := [.int .i64 (IntKind.i64.wrap (a - 1)), .int .i64 (IntKind.i64.wrap (a + 1))]) el_i64 rfl (.tmp 42) (.tmp 55) rfl rfl ((HO2.out.alloc _).drew) rfl rfl rv2 (one2 _ _) (by unfold maxLen; omega) (by omega) (by simp; omega) ?_; intro v2 w2 own2' gr2 hv2; (have O2 := Lib.hid (Out.app HO2.out HI2.out G2 (ints2 _ _) own2' gr2)); (have K2 := hB.below O2.out.g hB.lt); (have k20 := K2.at_ (i := 0) (v := .int .i64 a) rfl); clear K2 own2' gr2 hv2))
              go_simp
              have O := O2.out
              clear rv2 HO2 HI2 B2 c20 e20 k20
              obtain ⟨xs3, own3, ints3, G3⟩ := O
              have O : Out w _ _ w2 := ⟨xs3, own3, ints3, G3⟩
              have B3 := hB.below G3 hB.lt
              have m3 := growc (B3.at_ (i := 1) (v := .int .i64 b) rfl)
              replace O := Lib.hid O
              clear own3 ints3
              go_wp2
              refine wp_region_grow (by kernel_rfl) (by kernel_rfl) ?_
              repeat (first | go_big_quiet_step (fail) | go_big_quiet_step (exact calls_grow (end_calls _)))
              refine wpQuiet_nil ?_
              rintro w' ⟨r, rfl⟩
              replace O := O.out.gr (grow_below w2 r)
              clear m3 B3
              generalize grow w2 r = w3 at *
              obtain ⟨xs4, own4, ints4, G4⟩ := O
              have B4 := hB.below G4 hB.lt
              have c40 : w3.cell? ⟨g, 1, none⟩ = some (.int .i64 b) := B4.at_ rfl
              have e40 : ∀ o, (w3.alloc o).cell? ⟨g, 1, none⟩ = some (.int .i64 b) := fun o => (B4.alloc o).at_ rfl
              have rv4 : RV (w3.alloc (.cells #[.int .i64 (IntKind.i64.wrap (b - 1)), .int .i64 (IntKind.i64.wrap (b + 1))] 2)).drew (some ⟨w3.heap.size, 0, none⟩) [.int .i64 (IntKind.i64.wrap (b - 1)), .int .i64 (IntKind.i64.wrap (b + 1))] := RV.new w3 [.int .i64 (IntKind.i64.wrap (b - 1)), .int .i64 (IntKind.i64.wrap (b + 1))] 2 (0, 0)
              have z4 := Below.size G4
              have HO4 := Lib.hid own4
              have HI4 := Lib.hid ints4
              clear own4 ints4
              go_wp2
              go_region_held_law (fun wq => wq.cell? ⟨g, 1, none⟩ = some (.int .i64 b)) (first | exact c40 | exact e40 _ | exact k40) ((refine step_append_rv (A := some ⟨w3.heap.size, 0, none⟩) (m := 2) (c := 2) (v := _) (news := [.int .i64 (IntKind.i64.wrap (b - 1)), .int .i64 (IntKind.i64.wrap (b + 1))]) el_i64 rfl (.tmp 72) (.tmp 85) rfl rfl ((HO4.out.alloc _).drew) rfl rfl rv4 (one2 _ _) (by unfold maxLen; omega) (by omega) (by simp; omega) ?_; intro v4 w4 own4' gr4 hv4; (have O4 := Lib.hid (Out.app HO4.out HI4.out G4 (ints2 _ _) own4' gr4)); (have K4 := hB.below O4.out.g hB.lt); (have k40 := K4.at_ (i := 1) (v := .int .i64 b) rfl); clear K4 own4' gr4 hv4))
              go_simp
              have O := O4.out
              clear rv4 HO4 HI4 B4 c40 e40 k40
              go_wp2
              go_roundw
              case rel => exact ⟨1, _, by omega, by go_num, by omega, O⟩
              case measure => simp [intOf]
            · have q3 : decide (-9 < b) = true := decide_eq_true h2a
              have q4 : decide (b < 4611686018427387904) = false := decide_eq_false h2b
              obtain ⟨xs5, own5, ints5, G5⟩ := O
              have B5 := hB.below G5 hB.lt
              have c50 : wr.cell? ⟨g, 0, none⟩ = some (.int .i64 a) := B5.at_ rfl
              have e50 : ∀ o, (wr.alloc o).cell? ⟨g, 0, none⟩ = some (.int .i64 a) := fun o => (B5.alloc o).at_ rfl
              have c51 : wr.cell? ⟨g, 1, none⟩ = some (.int .i64 b) := B5.at_ rfl
              have e51 : ∀ o, (wr.alloc o).cell? ⟨g, 1, none⟩ = some (.int .i64 b) := fun o => (B5.alloc o).at_ rfl
              have rv5 : RV (wr.alloc (.cells #[.int .i64 (a), .int .i64 (b)] 2)).drew (some ⟨wr.heap.size, 0, none⟩) [.int .i64 (a), .int .i64 (b)] := RV.new wr [.int .i64 (a), .int .i64 (b)] 2 (0, 0)
              have z5 := Below.size G5
              have HO5 := Lib.hid own5
              have HI5 := Lib.hid ints5
              clear own5 ints5
              go_wp2
              go_region_held_law (fun wq => wq.cell? ⟨g, 0, none⟩ = some (.int .i64 a) ∧ wq.cell? ⟨g, 1, none⟩ = some (.int .i64 b)) (first | exact ⟨c50, c51⟩ | exact ⟨e50 _, e51 _⟩ | exact ⟨k50, k51⟩) ((refine step_append_rv (A := some ⟨wr.heap.size, 0, none⟩) (m := 2) (c := 2) (v := _) (news := [.int .i64 (a), .int .i64 (b)]) el_i64 rfl (.tmp 14) (.tmp 25) rfl rfl ((HO5.out.alloc _).drew) rfl rfl rv5 (one2 _ _) (by unfold maxLen; omega) (by omega) (by simp; omega) ?_; intro v5 w5 own5' gr5 hv5; (have O5 := Lib.hid (Out.app HO5.out HI5.out G5 (ints2 _ _) own5' gr5)); (have K5 := hB.below O5.out.g hB.lt); (have k50 := K5.at_ (i := 0) (v := .int .i64 a) rfl); (have k51 := K5.at_ (i := 1) (v := .int .i64 b) rfl); clear K5 own5' gr5 hv5))
              go_simp
              have O := O5.out
              clear rv5 HO5 HI5 B5 c50 e50 k50 c51 e51 k51
              obtain ⟨xs6, own6, ints6, G6⟩ := O
              have O : Out w _ _ w5 := ⟨xs6, own6, ints6, G6⟩
              have B6 := hB.below G6 hB.lt
              have m6 := growc (B6.at_ (i := 0) (v := .int .i64 a) rfl)
              replace O := Lib.hid O
              clear own6 ints6
              go_wp2
              refine wp_region_grow (by kernel_rfl) (by kernel_rfl) ?_
              repeat (first | go_big_quiet_step (fail) | go_big_quiet_step (exact calls_grow (end_calls _)))
              refine wpQuiet_nil ?_
              rintro w' ⟨r, rfl⟩
              replace O := O.out.gr (grow_below w5 r)
              clear m6 B6
              generalize grow w5 r = w6 at *
              obtain ⟨xs7, own7, ints7, G7⟩ := O
              have B7 := hB.below G7 hB.lt
              have c70 : w6.cell? ⟨g, 0, none⟩ = some (.int .i64 a) := B7.at_ rfl
              have e70 : ∀ o, (w6.alloc o).cell? ⟨g, 0, none⟩ = some (.int .i64 a) := fun o => (B7.alloc o).at_ rfl
              have rv7 : RV (w6.alloc (.cells #[.int .i64 (IntKind.i64.wrap (a - 1)), .int .i64 (IntKind.i64.wrap (a + 1))] 2)).drew (some ⟨w6.heap.size, 0, none⟩) [.int .i64 (IntKind.i64.wrap (a - 1)), .int .i64 (IntKind.i64.wrap (a + 1))] := RV.new w6 [.int .i64 (IntKind.i64.wrap (a - 1)), .int .i64 (IntKind.i64.wrap (a + 1))] 2 (0, 0)
              have z7 := Below.size G7
              have HO7 := Lib.hid own7
              have HI7 := Lib.hid ints7
              clear own7 ints7
              go_wp2
              go_region_held_law (fun wq => wq.cell? ⟨g, 0, none⟩ = some (.int .i64 a)) (first | exact c70 | exact e70 _ | exact k70) ((refine step_append_rv (A := some ⟨w6.heap.size, 0, none⟩) (m := 2) (c := 2) (v := _) (news := [.int .i64 (IntKind.i64.wrap (a - 1)), .int .i64 (IntKind.i64.wrap (a + 1))]) el_i64 rfl (.tmp 42) (.tmp 55) rfl rfl ((HO7.out.alloc _).drew) rfl rfl rv7 (one2 _ _) (by unfold maxLen; omega) (by omega) (by simp; omega) ?_; intro v7 w7 own7' gr7 hv7; (have O7 := Lib.hid (Out.app HO7.out HI7.out G7 (ints2 _ _) own7' gr7)); (have K7 := hB.below O7.out.g hB.lt); (have k70 := K7.at_ (i := 0) (v := .int .i64 a) rfl); clear K7 own7' gr7 hv7))
              go_simp
              have O := O7.out
              clear rv7 HO7 HI7 B7 c70 e70 k70
              obtain ⟨xs8, own8, ints8, G8⟩ := O
              have O : Out w _ _ w7 := ⟨xs8, own8, ints8, G8⟩
              have B8 := hB.below G8 hB.lt
              have m8 := growc (B8.at_ (i := 1) (v := .int .i64 b) rfl)
              replace O := Lib.hid O
              clear own8 ints8
              go_wp2
              refine wp_region_grow (by kernel_rfl) (by kernel_rfl) ?_
              repeat (first | go_big_quiet_step (fail) | go_big_quiet_step (exact calls_grow (end_calls _)))
              refine wpQuiet_nil ?_
              rintro w' ⟨r, rfl⟩
              replace O := O.out.gr (grow_below w7 r)
              clear m8 B8
              generalize grow w7 r = w8 at *
              go_wp2
              go_roundw
              case rel => exact ⟨1, _, by omega, by go_num, by omega, O⟩
              case measure => simp [intOf]
          · have q3 : decide (-9 < b) = false := decide_eq_false h2a
            obtain ⟨xs9, own9, ints9, G9⟩ := O
            have B9 := hB.below G9 hB.lt
            have c90 : wr.cell? ⟨g, 0, none⟩ = some (.int .i64 a) := B9.at_ rfl
            have e90 : ∀ o, (wr.alloc o).cell? ⟨g, 0, none⟩ = some (.int .i64 a) := fun o => (B9.alloc o).at_ rfl
            have c91 : wr.cell? ⟨g, 1, none⟩ = some (.int .i64 b) := B9.at_ rfl
            have e91 : ∀ o, (wr.alloc o).cell? ⟨g, 1, none⟩ = some (.int .i64 b) := fun o => (B9.alloc o).at_ rfl
            have rv9 : RV (wr.alloc (.cells #[.int .i64 (a), .int .i64 (b)] 2)).drew (some ⟨wr.heap.size, 0, none⟩) [.int .i64 (a), .int .i64 (b)] := RV.new wr [.int .i64 (a), .int .i64 (b)] 2 (0, 0)
            have z9 := Below.size G9
            have HO9 := Lib.hid own9
            have HI9 := Lib.hid ints9
            clear own9 ints9
            go_wp2
            go_region_held_law (fun wq => wq.cell? ⟨g, 0, none⟩ = some (.int .i64 a) ∧ wq.cell? ⟨g, 1, none⟩ = some (.int .i64 b)) (first | exact ⟨c90, c91⟩ | exact ⟨e90 _, e91 _⟩ | exact ⟨k90, k91⟩) ((refine step_append_rv (A := some ⟨wr.heap.size, 0, none⟩) (m := 2) (c := 2) (v := _) (news := [.int .i64 (a), .int .i64 (b)]) el_i64 rfl (.tmp 14) (.tmp 25) rfl rfl ((HO9.out.alloc _).drew) rfl rfl rv9 (one2 _ _) (by unfold maxLen; omega) (by omega) (by simp; omega) ?_; intro v9 w9 own9' gr9 hv9; (have O9 := Lib.hid (Out.app HO9.out HI9.out G9 (ints2 _ _) own9' gr9)); (have K9 := hB.below O9.out.g hB.lt); (have k90 := K9.at_ (i := 0) (v := .int .i64 a) rfl); (have k91 := K9.at_ (i := 1) (v := .int .i64 b) rfl); clear K9 own9' gr9 hv9))
            go_simp
            have O := O9.out
            clear rv9 HO9 HI9 B9 c90 e90 k90 c91 e91 k91
            obtain ⟨xs10, own10, ints10, G10⟩ := O
            have O : Out w _ _ w9 := ⟨xs10, own10, ints10, G10⟩
            have B10 := hB.below G10 hB.lt
            have m10 := growc (B10.at_ (i := 0) (v := .int .i64 a) rfl)
            replace O := Lib.hid O
            clear own10 ints10
            go_wp2
            refine wp_region_grow (by kernel_rfl) (by kernel_rfl) ?_
            repeat (first | go_big_quiet_step (fail) | go_big_quiet_step (exact calls_grow (end_calls _)))
            refine wpQuiet_nil ?_
            rintro w' ⟨r, rfl⟩
            replace O := O.out.gr (grow_below w9 r)
            clear m10 B10
            generalize grow w9 r = w10 at *
            obtain ⟨xs11, own11, ints11, G11⟩ := O
            have B11 := hB.below G11 hB.lt
            have c110 : w10.cell? ⟨g, 0, none⟩ = some (.int .i64 a) := B11.at_ rfl
            have e110 : ∀ o, (w10.alloc o).cell? ⟨g, 0, none⟩ = some (.int .i64 a) := fun o => (B11.alloc o).at_ rfl
            have rv11 : RV (w10.alloc (.cells #[.int .i64 (IntKind.i64.wrap (a - 1)), .int .i64 (IntKind.i64.wrap (a + 1))] 2)).drew (some ⟨w10.heap.size, 0, none⟩) [.int .i64 (IntKind.i64.wrap (a - 1)), .int .i64 (IntKind.i64.wrap (a + 1))] := RV.new w10 [.int .i64 (IntKind.i64.wrap (a - 1)), .int .i64 (IntKind.i64.wrap (a + 1))] 2 (0, 0)
            have z11 := Below.size G11
            have HO11 := Lib.hid own11
            have HI11 := Lib.hid ints11
            clear own11 ints11
            go_wp2
            go_region_held_law (fun wq => wq.cell? ⟨g, 0, none⟩ = some (.int .i64 a)) (first | exact c110 | exact e110 _ | exact k110) ((refine step_append_rv (A := some ⟨w10.heap.size, 0, none⟩) (m := 2) (c := 2) (v := _) (news := [.int .i64 (IntKind.i64.wrap (a - 1)), .int .i64 (IntKind.i64.wrap (a + 1))]) el_i64 rfl (.tmp 42) (.tmp 55) rfl rfl ((HO11.out.alloc _).drew) rfl rfl rv11 (one2 _ _) (by unfold maxLen; omega) (by omega) (by simp; omega) ?_; intro v11 w11 own11' gr11 hv11; (have O11 := Lib.hid (Out.app HO11.out HI11.out G11 (ints2 _ _) own11' gr11)); (have K11 := hB.below O11.out.g hB.lt); (have k110 := K11.at_ (i := 0) (v := .int .i64 a) rfl); clear K11 own11' gr11 hv11))
            go_simp
            have O := O11.out
            clear rv11 HO11 HI11 B11 c110 e110 k110
            obtain ⟨xs12, own12, ints12, G12⟩ := O
            have O : Out w _ _ w11 := ⟨xs12, own12, ints12, G12⟩
            have B12 := hB.below G12 hB.lt
            have m12 := growc (B12.at_ (i := 1) (v := .int .i64 b) rfl)
            replace O := Lib.hid O
            clear own12 ints12
            go_wp2
            refine wp_region_grow (by kernel_rfl) (by kernel_rfl) ?_
            repeat (first | go_big_quiet_step (fail) | go_big_quiet_step (exact calls_grow (end_calls _)))
            refine wpQuiet_nil ?_
            rintro w' ⟨r, rfl⟩
            replace O := O.out.gr (grow_below w11 r)
            clear m12 B12
            generalize grow w11 r = w12 at *
            go_wp2
            go_roundw
            case rel => exact ⟨1, _, by omega, by go_num, by omega, O⟩
            case measure => simp [intOf]
        · have q1 : decide (-9 < a) = true := decide_eq_true h1a
          have q2 : decide (a < 4611686018427387904) = false := decide_eq_false h1b
          by_cases h2a : -9 < b
          · by_cases h2b : b < 4611686018427387904
            · have q3 : decide (-9 < b) = true := decide_eq_true h2a
              have q4 : decide (b < 4611686018427387904) = true := decide_eq_true h2b
              obtain ⟨xs13, own13, ints13, G13⟩ := O
              have B13 := hB.below G13 hB.lt
              have c130 : wr.cell? ⟨g, 0, none⟩ = some (.int .i64 a) := B13.at_ rfl
              have e130 : ∀ o, (wr.alloc o).cell? ⟨g, 0, none⟩ = some (.int .i64 a) := fun o => (B13.alloc o).at_ rfl
              have c131 : wr.cell? ⟨g, 1, none⟩ = some (.int .i64 b) := B13.at_ rfl
              have e131 : ∀ o, (wr.alloc o).cell? ⟨g, 1, none⟩ = some (.int .i64 b) := fun o => (B13.alloc o).at_ rfl
              have rv13 : RV (wr.alloc (.cells #[.int .i64 (a), .int .i64 (b)] 2)).drew (some ⟨wr.heap.size, 0, none⟩) [.int .i64 (a), .int .i64 (b)] := RV.new wr [.int .i64 (a), .int .i64 (b)] 2 (0, 0)
              have z13 := Below.size G13
              have HO13 := Lib.hid own13
              have HI13 := Lib.hid ints13
              clear own13 ints13
              go_wp2
              go_region_held_law (fun wq => wq.cell? ⟨g, 0, none⟩ = some (.int .i64 a) ∧ wq.cell? ⟨g, 1, none⟩ = some (.int .i64 b)) (first | exact ⟨c130, c131⟩ | exact ⟨e130 _, e131 _⟩ | exact ⟨k130, k131⟩) ((refine step_append_rv (A := some ⟨wr.heap.size, 0, none⟩) (m := 2) (c := 2) (v := _) (news := [.int .i64 (a), .int .i64 (b)]) el_i64 rfl (.tmp 14) (.tmp 25) rfl rfl ((HO13.out.alloc _).drew) rfl rfl rv13 (one2 _ _) (by unfold maxLen; omega) (by omega) (by simp; omega) ?_; intro v13 w13 own13' gr13 hv13; (have O13 := Lib.hid (Out.app HO13.out HI13.out G13 (ints2 _ _) own13' gr13)); (have K13 := hB.below O13.out.g hB.lt); (have k130 := K13.at_ (i := 0) (v := .int .i64 a) rfl); (have k131 := K13.at_ (i := 1) (v := .int .i64 b) rfl); clear K13 own13' gr13 hv13))
              go_simp
              have O := O13.out
              clear rv13 HO13 HI13 B13 c130 e130 k130 c131 e131 k131
              obtain ⟨xs14, own14, ints14, G14⟩ := O
              have O : Out w _ _ w13 := ⟨xs14, own14, ints14, G14⟩
              have B14 := hB.below G14 hB.lt
              have m14 := growc (B14.at_ (i := 0) (v := .int .i64 a) rfl)
              replace O := Lib.hid O
              clear own14 ints14
              go_wp2
              refine wp_region_grow (by kernel_rfl) (by kernel_rfl) ?_
              repeat (first | go_big_quiet_step (fail) | go_big_quiet_step (exact calls_grow (end_calls _)))
              refine wpQuiet_nil ?_
              rintro w' ⟨r, rfl⟩
              replace O := O.out.gr (grow_below w13 r)
              clear m14 B14
              generalize grow w13 r = w14 at *
              obtain ⟨xs15, own15, ints15, G15⟩ := O
              have O : Out w _ _ w14 := ⟨xs15, own15, ints15, G15⟩
              have B15 := hB.below G15 hB.lt
              have m15 := growc (B15.at_ (i := 1) (v := .int .i64 b) rfl)
              replace O := Lib.hid O
              clear own15 ints15
              go_wp2
              refine wp_region_grow (by kernel_rfl) (by kernel_rfl) ?_
              repeat (first | go_big_quiet_step (fail) | go_big_quiet_step (exact calls_grow (end_calls _)))
              refine wpQuiet_nil ?_
              rintro w' ⟨r, rfl⟩
              replace O := O.out.gr (grow_below w14 r)
              clear m15 B15
              generalize grow w14 r = w15 at *
              obtain ⟨xs16, own16, ints16, G16⟩ := O
              have B16 := hB.below G16 hB.lt
              have c160 : w15.cell? ⟨g, 1, none⟩ = some (.int .i64 b) := B16.at_ rfl
              have e160 : ∀ o, (w15.alloc o).cell? ⟨g, 1, none⟩ = some (.int .i64 b) := fun o => (B16.alloc o).at_ rfl
              have rv16 : RV (w15.alloc (.cells #[.int .i64 (IntKind.i64.wrap (b - 1)), .int .i64 (IntKind.i64.wrap (b + 1))] 2)).drew (some ⟨w15.heap.size, 0, none⟩) [.int .i64 (IntKind.i64.wrap (b - 1)), .int .i64 (IntKind.i64.wrap (b + 1))] := RV.new w15 [.int .i64 (IntKind.i64.wrap (b - 1)), .int .i64 (IntKind.i64.wrap (b + 1))] 2 (0, 0)
              have z16 := Below.size G16
              have HO16 := Lib.hid own16
              have HI16 := Lib.hid ints16
              clear own16 ints16
              go_wp2
              go_region_held_law (fun wq => wq.cell? ⟨g, 1, none⟩ = some (.int .i64 b)) (first | exact c160 | exact e160 _ | exact k160) ((refine step_append_rv (A := some ⟨w15.heap.size, 0, none⟩) (m := 2) (c := 2) (v := _) (news := [.int .i64 (IntKind.i64.wrap (b - 1)), .int .i64 (IntKind.i64.wrap (b + 1))]) el_i64 rfl (.tmp 72) (.tmp 85) rfl rfl ((HO16.out.alloc _).drew) rfl rfl rv16 (one2 _ _) (by unfold maxLen; omega) (by omega) (by simp; omega) ?_; intro v16 w16 own16' gr16 hv16; (have O16 := Lib.hid (Out.app HO16.out HI16.out G16 (ints2 _ _) own16' gr16)); (have K16 := hB.below O16.out.g hB.lt); (have k160 := K16.at_ (i := 1) (v := .int .i64 b) rfl); clear K16 own16' gr16 hv16))
              go_simp
              have O := O16.out
              clear rv16 HO16 HI16 B16 c160 e160 k160
              go_wp2
              go_roundw
              case rel => exact ⟨1, _, by omega, by go_num, by omega, O⟩
              case measure => simp [intOf]
            · have q3 : decide (-9 < b) = true := decide_eq_true h2a
              have q4 : decide (b < 4611686018427387904) = false := decide_eq_false h2b
              obtain ⟨xs17, own17, ints17, G17⟩ := O
              have B17 := hB.below G17 hB.lt
              have c170 : wr.cell? ⟨g, 0, none⟩ = some (.int .i64 a) := B17.at_ rfl
              have e170 : ∀ o, (wr.alloc o).cell? ⟨g, 0, none⟩ = some (.int .i64 a) := fun o => (B17.alloc o).at_ rfl
              have c171 : wr.cell? ⟨g, 1, none⟩ = some (.int .i64 b) := B17.at_ rfl
              have e171 : ∀ o, (wr.alloc o).cell? ⟨g, 1, none⟩ = some (.int .i64 b) := fun o => (B17.alloc o).at_ rfl
              have rv17 : RV (wr.alloc (.cells #[.int .i64 (a), .int .i64 (b)] 2)).drew (some ⟨wr.heap.size, 0, none⟩) [.int .i64 (a), .int .i64 (b)] := RV.new wr [.int .i64 (a), .int .i64 (b)] 2 (0, 0)
              have z17 := Below.size G17
              have HO17 := Lib.hid own17
              have HI17 := Lib.hid ints17
              clear own17 ints17
              go_wp2
              go_region_held_law (fun wq => wq.cell? ⟨g, 0, none⟩ = some (.int .i64 a) ∧ wq.cell? ⟨g, 1, none⟩ = some (.int .i64 b)) (first | exact ⟨c170, c171⟩ | exact ⟨e170 _, e171 _⟩ | exact ⟨k170, k171⟩) ((refine step_append_rv (A := some ⟨wr.heap.size, 0, none⟩) (m := 2) (c := 2) (v := _) (news := [.int .i64 (a), .int .i64 (b)]) el_i64 rfl (.tmp 14) (.tmp 25) rfl rfl ((HO17.out.alloc _).drew) rfl rfl rv17 (one2 _ _) (by unfold maxLen; omega) (by omega) (by simp; omega) ?_; intro v17 w17 own17' gr17 hv17; (have O17 := Lib.hid (Out.app HO17.out HI17.out G17 (ints2 _ _) own17' gr17)); (have K17 := hB.below O17.out.g hB.lt); (have k170 := K17.at_ (i := 0) (v := .int .i64 a) rfl); (have k171 := K17.at_ (i := 1) (v := .int .i64 b) rfl); clear K17 own17' gr17 hv17))
              go_simp
              have O := O17.out
              clear rv17 HO17 HI17 B17 c170 e170 k170 c171 e171 k171
              obtain ⟨xs18, own18, ints18, G18⟩ := O
              have O : Out w _ _ w17 := ⟨xs18, own18, ints18, G18⟩
              have B18 := hB.below G18 hB.lt
              have m18 := growc (B18.at_ (i := 0) (v := .int .i64 a) rfl)
              replace O := Lib.hid O
              clear own18 ints18
              go_wp2
              refine wp_region_grow (by kernel_rfl) (by kernel_rfl) ?_
              repeat (first | go_big_quiet_step (fail) | go_big_quiet_step (exact calls_grow (end_calls _)))
              refine wpQuiet_nil ?_
              rintro w' ⟨r, rfl⟩
              replace O := O.out.gr (grow_below w17 r)
              clear m18 B18
              generalize grow w17 r = w18 at *
              obtain ⟨xs19, own19, ints19, G19⟩ := O
              have O : Out w _ _ w18 := ⟨xs19, own19, ints19, G19⟩
              have B19 := hB.below G19 hB.lt
              have m19 := growc (B19.at_ (i := 1) (v := .int .i64 b) rfl)
              replace O := Lib.hid O
              clear own19 ints19
              go_wp2
              refine wp_region_grow (by kernel_rfl) (by kernel_rfl) ?_
              repeat (first | go_big_quiet_step (fail) | go_big_quiet_step (exact calls_grow (end_calls _)))
              refine wpQuiet_nil ?_
              rintro w' ⟨r, rfl⟩
              replace O := O.out.gr (grow_below w18 r)
              clear m19 B19
              generalize grow w18 r = w19 at *
              go_wp2
              go_roundw
              case rel => exact ⟨1, _, by omega, by go_num, by omega, O⟩
              case measure => simp [intOf]
          · have q3 : decide (-9 < b) = false := decide_eq_false h2a
            obtain ⟨xs20, own20, ints20, G20⟩ := O
            have B20 := hB.below G20 hB.lt
            have c200 : wr.cell? ⟨g, 0, none⟩ = some (.int .i64 a) := B20.at_ rfl
            have e200 : ∀ o, (wr.alloc o).cell? ⟨g, 0, none⟩ = some (.int .i64 a) := fun o => (B20.alloc o).at_ rfl
            have c201 : wr.cell? ⟨g, 1, none⟩ = some (.int .i64 b) := B20.at_ rfl
            have e201 : ∀ o, (wr.alloc o).cell? ⟨g, 1, none⟩ = some (.int .i64 b) := fun o => (B20.alloc o).at_ rfl
            have rv20 : RV (wr.alloc (.cells #[.int .i64 (a), .int .i64 (b)] 2)).drew (some ⟨wr.heap.size, 0, none⟩) [.int .i64 (a), .int .i64 (b)] := RV.new wr [.int .i64 (a), .int .i64 (b)] 2 (0, 0)
            have z20 := Below.size G20
            have HO20 := Lib.hid own20
            have HI20 := Lib.hid ints20
            clear own20 ints20
            go_wp2
            go_region_held_law (fun wq => wq.cell? ⟨g, 0, none⟩ = some (.int .i64 a) ∧ wq.cell? ⟨g, 1, none⟩ = some (.int .i64 b)) (first | exact ⟨c200, c201⟩ | exact ⟨e200 _, e201 _⟩ | exact ⟨k200, k201⟩) ((refine step_append_rv (A := some ⟨wr.heap.size, 0, none⟩) (m := 2) (c := 2) (v := _) (news := [.int .i64 (a), .int .i64 (b)]) el_i64 rfl (.tmp 14) (.tmp 25) rfl rfl ((HO20.out.alloc _).drew) rfl rfl rv20 (one2 _ _) (by unfold maxLen; omega) (by omega) (by simp; omega) ?_; intro v20 w20 own20' gr20 hv20; (have O20 := Lib.hid (Out.app HO20.out HI20.out G20 (ints2 _ _) own20' gr20)); (have K20 := hB.below O20.out.g hB.lt); (have k200 := K20.at_ (i := 0) (v := .int .i64 a) rfl); (have k201 := K20.at_ (i := 1) (v := .int .i64 b) rfl); clear K20 own20' gr20 hv20))
            go_simp
            have O := O20.out
            clear rv20 HO20 HI20 B20 c200 e200 k200 c201 e201 k201
            obtain ⟨xs21, own21, ints21, G21⟩ := O
            have O : Out w _ _ w20 := ⟨xs21, own21, ints21, G21⟩
            have B21 := hB.below G21 hB.lt
            have m21 := growc (B21.at_ (i := 0) (v := .int .i64 a) rfl)
            replace O := Lib.hid O
            clear own21 ints21
            go_wp2
            refine wp_region_grow (by kernel_rfl) (by kernel_rfl) ?_
            repeat (first | go_big_quiet_step (fail) | go_big_quiet_step (exact calls_grow (end_calls _)))
            refine wpQuiet_nil ?_
            rintro w' ⟨r, rfl⟩
            replace O := O.out.gr (grow_below w20 r)
            clear m21 B21
            generalize grow w20 r = w21 at *
            obtain ⟨xs22, own22, ints22, G22⟩ := O
            have O : Out w _ _ w21 := ⟨xs22, own22, ints22, G22⟩
            have B22 := hB.below G22 hB.lt
            have m22 := growc (B22.at_ (i := 1) (v := .int .i64 b) rfl)
            replace O := Lib.hid O
            clear own22 ints22
            go_wp2
            refine wp_region_grow (by kernel_rfl) (by kernel_rfl) ?_
            repeat (first | go_big_quiet_step (fail) | go_big_quiet_step (exact calls_grow (end_calls _)))
            refine wpQuiet_nil ?_
            rintro w' ⟨r, rfl⟩
            replace O := O.out.gr (grow_below w21 r)
            clear m22 B22
            generalize grow w21 r = w22 at *
            go_wp2
            go_roundw
            case rel => exact ⟨1, _, by omega, by go_num, by omega, O⟩
            case measure => simp [intOf]
      · have q1 : decide (-9 < a) = false := decide_eq_false h1a
        by_cases h2a : -9 < b
        · by_cases h2b : b < 4611686018427387904
          · have q3 : decide (-9 < b) = true := decide_eq_true h2a
            have q4 : decide (b < 4611686018427387904) = true := decide_eq_true h2b
            obtain ⟨xs23, own23, ints23, G23⟩ := O
            have B23 := hB.below G23 hB.lt
            have c230 : wr.cell? ⟨g, 0, none⟩ = some (.int .i64 a) := B23.at_ rfl
            have e230 : ∀ o, (wr.alloc o).cell? ⟨g, 0, none⟩ = some (.int .i64 a) := fun o => (B23.alloc o).at_ rfl
            have c231 : wr.cell? ⟨g, 1, none⟩ = some (.int .i64 b) := B23.at_ rfl
            have e231 : ∀ o, (wr.alloc o).cell? ⟨g, 1, none⟩ = some (.int .i64 b) := fun o => (B23.alloc o).at_ rfl
            have rv23 : RV (wr.alloc (.cells #[.int .i64 (a), .int .i64 (b)] 2)).drew (some ⟨wr.heap.size, 0, none⟩) [.int .i64 (a), .int .i64 (b)] := RV.new wr [.int .i64 (a), .int .i64 (b)] 2 (0, 0)
            have z23 := Below.size G23
            have HO23 := Lib.hid own23
            have HI23 := Lib.hid ints23
            clear own23 ints23
            go_wp2
            go_region_held_law (fun wq => wq.cell? ⟨g, 0, none⟩ = some (.int .i64 a) ∧ wq.cell? ⟨g, 1, none⟩ = some (.int .i64 b)) (first | exact ⟨c230, c231⟩ | exact ⟨e230 _, e231 _⟩ | exact ⟨k230, k231⟩) ((refine step_append_rv (A := some ⟨wr.heap.size, 0, none⟩) (m := 2) (c := 2) (v := _) (news := [.int .i64 (a), .int .i64 (b)]) el_i64 rfl (.tmp 14) (.tmp 25) rfl rfl ((HO23.out.alloc _).drew) rfl rfl rv23 (one2 _ _) (by unfold maxLen; omega) (by omega) (by simp; omega) ?_; intro v23 w23 own23' gr23 hv23; (have O23 := Lib.hid (Out.app HO23.out HI23.out G23 (ints2 _ _) own23' gr23)); (have K23 := hB.below O23.out.g hB.lt); (have k230 := K23.at_ (i := 0) (v := .int .i64 a) rfl); (have k231 := K23.at_ (i := 1) (v := .int .i64 b) rfl); clear K23 own23' gr23 hv23))
            go_simp
            have O := O23.out
            clear rv23 HO23 HI23 B23 c230 e230 k230 c231 e231 k231
            obtain ⟨xs24, own24, ints24, G24⟩ := O
            have O : Out w _ _ w23 := ⟨xs24, own24, ints24, G24⟩
            have B24 := hB.below G24 hB.lt
            have m24 := growc (B24.at_ (i := 0) (v := .int .i64 a) rfl)
            replace O := Lib.hid O
            clear own24 ints24
            go_wp2
            refine wp_region_grow (by kernel_rfl) (by kernel_rfl) ?_
            repeat (first | go_big_quiet_step (fail) | go_big_quiet_step (exact calls_grow (end_calls _)))
            refine wpQuiet_nil ?_
            rintro w' ⟨r, rfl⟩
            replace O := O.out.gr (grow_below w23 r)
            clear m24 B24
            generalize grow w23 r = w24 at *
            obtain ⟨xs25, own25, ints25, G25⟩ := O
            have O : Out w _ _ w24 := ⟨xs25, own25, ints25, G25⟩
            have B25 := hB.below G25 hB.lt
            have m25 := growc (B25.at_ (i := 1) (v := .int .i64 b) rfl)
            replace O := Lib.hid O
            clear own25 ints25
            go_wp2
            refine wp_region_grow (by kernel_rfl) (by kernel_rfl) ?_
            repeat (first | go_big_quiet_step (fail) | go_big_quiet_step (exact calls_grow (end_calls _)))
            refine wpQuiet_nil ?_
            rintro w' ⟨r, rfl⟩
            replace O := O.out.gr (grow_below w24 r)
            clear m25 B25
            generalize grow w24 r = w25 at *
            obtain ⟨xs26, own26, ints26, G26⟩ := O
            have B26 := hB.below G26 hB.lt
            have c260 : w25.cell? ⟨g, 1, none⟩ = some (.int .i64 b) := B26.at_ rfl
            have e260 : ∀ o, (w25.alloc o).cell? ⟨g, 1, none⟩ = some (.int .i64 b) := fun o => (B26.alloc o).at_ rfl
            have rv26 : RV (w25.alloc (.cells #[.int .i64 (IntKind.i64.wrap (b - 1)), .int .i64 (IntKind.i64.wrap (b + 1))] 2)).drew (some ⟨w25.heap.size, 0, none⟩) [.int .i64 (IntKind.i64.wrap (b - 1)), .int .i64 (IntKind.i64.wrap (b + 1))] := RV.new w25 [.int .i64 (IntKind.i64.wrap (b - 1)), .int .i64 (IntKind.i64.wrap (b + 1))] 2 (0, 0)
            have z26 := Below.size G26
            have HO26 := Lib.hid own26
            have HI26 := Lib.hid ints26
            clear own26 ints26
            go_wp2
            go_region_held_law (fun wq => wq.cell? ⟨g, 1, none⟩ = some (.int .i64 b)) (first | exact c260 | exact e260 _ | exact k260) ((refine step_append_rv (A := some ⟨w25.heap.size, 0, none⟩) (m := 2) (c := 2) (v := _) (news := [.int .i64 (IntKind.i64.wrap (b - 1)), .int .i64 (IntKind.i64.wrap (b + 1))]) el_i64 rfl (.tmp 72) (.tmp 85) rfl rfl ((HO26.out.alloc _).drew) rfl rfl rv26 (one2 _ _) (by unfold maxLen; omega) (by omega) (by simp; omega) ?_; intro v26 w26 own26' gr26 hv26; (have O26 := Lib.hid (Out.app HO26.out HI26.out G26 (ints2 _ _) own26' gr26)); (have K26 := hB.below O26.out.g hB.lt); (have k260 := K26.at_ (i := 1) (v := .int .i64 b) rfl); clear K26 own26' gr26 hv26))
            go_simp
            have O := O26.out
            clear rv26 HO26 HI26 B26 c260 e260 k260
            go_wp2
            go_roundw
            case rel => exact ⟨1, _, by omega, by go_num, by omega, O⟩
            case measure => simp [intOf]
          · have q3 : decide (-9 < b) = true := decide_eq_true h2a
            have q4 : decide (b < 4611686018427387904) = false := decide_eq_false h2b
            obtain ⟨xs27, own27, ints27, G27⟩ := O
            have B27 := hB.below G27 hB.lt
            have c270 : wr.cell? ⟨g, 0, none⟩ = some (.int .i64 a) := B27.at_ rfl
            have e270 : ∀ o, (wr.alloc o).cell? ⟨g, 0, none⟩ = some (.int .i64 a) := fun o => (B27.alloc o).at_ rfl
            have c271 : wr.cell? ⟨g, 1, none⟩ = some (.int .i64 b) := B27.at_ rfl
            have e271 : ∀ o, (wr.alloc o).cell? ⟨g, 1, none⟩ = some (.int .i64 b) := fun o => (B27.alloc o).at_ rfl
            have rv27 : RV (wr.alloc (.cells #[.int .i64 (a), .int .i64 (b)] 2)).drew (some ⟨wr.heap.size, 0, none⟩) [.int .i64 (a), .int .i64 (b)] := RV.new wr [.int .i64 (a), .int .i64 (b)] 2 (0, 0)
            have z27 := Below.size G27
            have HO27 := Lib.hid own27
            have HI27 := Lib.hid ints27
            clear own27 ints27
            go_wp2
            go_region_held_law (fun wq => wq.cell? ⟨g, 0, none⟩ = some (.int .i64 a) ∧ wq.cell? ⟨g, 1, none⟩ = some (.int .i64 b)) (first | exact ⟨c270, c271⟩ | exact ⟨e270 _, e271 _⟩ | exact ⟨k270, k271⟩) ((refine step_append_rv (A := some ⟨wr.heap.size, 0, none⟩) (m := 2) (c := 2) (v := _) (news := [.int .i64 (a), .int .i64 (b)]) el_i64 rfl (.tmp 14) (.tmp 25) rfl rfl ((HO27.out.alloc _).drew) rfl rfl rv27 (one2 _ _) (by unfold maxLen; omega) (by omega) (by simp; omega) ?_; intro v27 w27 own27' gr27 hv27; (have O27 := Lib.hid (Out.app HO27.out HI27.out G27 (ints2 _ _) own27' gr27)); (have K27 := hB.below O27.out.g hB.lt); (have k270 := K27.at_ (i := 0) (v := .int .i64 a) rfl); (have k271 := K27.at_ (i := 1) (v := .int .i64 b) rfl); clear K27 own27' gr27 hv27))
            go_simp
            have O := O27.out
            clear rv27 HO27 HI27 B27 c270 e270 k270 c271 e271 k271
            obtain ⟨xs28, own28, ints28, G28⟩ := O
            have O : Out w _ _ w27 := ⟨xs28, own28, ints28, G28⟩
            have B28 := hB.below G28 hB.lt
            have m28 := growc (B28.at_ (i := 0) (v := .int .i64 a) rfl)
            replace O := Lib.hid O
            clear own28 ints28
            go_wp2
            refine wp_region_grow (by kernel_rfl) (by kernel_rfl) ?_
            repeat (first | go_big_quiet_step (fail) | go_big_quiet_step (exact calls_grow (end_calls _)))
            refine wpQuiet_nil ?_
            rintro w' ⟨r, rfl⟩
            replace O := O.out.gr (grow_below w27 r)
            clear m28 B28
            generalize grow w27 r = w28 at *
            obtain ⟨xs29, own29, ints29, G29⟩ := O
            have O : Out w _ _ w28 := ⟨xs29, own29, ints29, G29⟩
            have B29 := hB.below G29 hB.lt
            have m29 := growc (B29.at_ (i := 1) (v := .int .i64 b) rfl)
            replace O := Lib.hid O
            clear own29 ints29
            go_wp2
            refine wp_region_grow (by kernel_rfl) (by kernel_rfl) ?_
            repeat (first | go_big_quiet_step (fail) | go_big_quiet_step (exact calls_grow (end_calls _)))
            refine wpQuiet_nil ?_
            rintro w' ⟨r, rfl⟩
            replace O := O.out.gr (grow_below w28 r)
            clear m29 B29
            generalize grow w28 r = w29 at *
            go_wp2
            go_roundw
            case rel => exact ⟨1, _, by omega, by go_num, by omega, O⟩
            case measure => simp [intOf]
        · have q3 : decide (-9 < b) = false := decide_eq_false h2a
          obtain ⟨xs30, own30, ints30, G30⟩ := O
          have B30 := hB.below G30 hB.lt
          have c300 : wr.cell? ⟨g, 0, none⟩ = some (.int .i64 a) := B30.at_ rfl
          have e300 : ∀ o, (wr.alloc o).cell? ⟨g, 0, none⟩ = some (.int .i64 a) := fun o => (B30.alloc o).at_ rfl
          have c301 : wr.cell? ⟨g, 1, none⟩ = some (.int .i64 b) := B30.at_ rfl
          have e301 : ∀ o, (wr.alloc o).cell? ⟨g, 1, none⟩ = some (.int .i64 b) := fun o => (B30.alloc o).at_ rfl
          have rv30 : RV (wr.alloc (.cells #[.int .i64 (a), .int .i64 (b)] 2)).drew (some ⟨wr.heap.size, 0, none⟩) [.int .i64 (a), .int .i64 (b)] := RV.new wr [.int .i64 (a), .int .i64 (b)] 2 (0, 0)
          have z30 := Below.size G30
          have HO30 := Lib.hid own30
          have HI30 := Lib.hid ints30
          clear own30 ints30
          go_wp2
          go_region_held_law (fun wq => wq.cell? ⟨g, 0, none⟩ = some (.int .i64 a) ∧ wq.cell? ⟨g, 1, none⟩ = some (.int .i64 b)) (first | exact ⟨c300, c301⟩ | exact ⟨e300 _, e301 _⟩ | exact ⟨k300, k301⟩) ((refine step_append_rv (A := some ⟨wr.heap.size, 0, none⟩) (m := 2) (c := 2) (v := _) (news := [.int .i64 (a), .int .i64 (b)]) el_i64 rfl (.tmp 14) (.tmp 25) rfl rfl ((HO30.out.alloc _).drew) rfl rfl rv30 (one2 _ _) (by unfold maxLen; omega) (by omega) (by simp; omega) ?_; intro v30 w30 own30' gr30 hv30; (have O30 := Lib.hid (Out.app HO30.out HI30.out G30 (ints2 _ _) own30' gr30)); (have K30 := hB.below O30.out.g hB.lt); (have k300 := K30.at_ (i := 0) (v := .int .i64 a) rfl); (have k301 := K30.at_ (i := 1) (v := .int .i64 b) rfl); clear K30 own30' gr30 hv30))
          go_simp
          have O := O30.out
          clear rv30 HO30 HI30 B30 c300 e300 k300 c301 e301 k301
          obtain ⟨xs31, own31, ints31, G31⟩ := O
          have O : Out w _ _ w30 := ⟨xs31, own31, ints31, G31⟩
          have B31 := hB.below G31 hB.lt
          have m31 := growc (B31.at_ (i := 0) (v := .int .i64 a) rfl)
          replace O := Lib.hid O
          clear own31 ints31
          go_wp2
          refine wp_region_grow (by kernel_rfl) (by kernel_rfl) ?_
          repeat (first | go_big_quiet_step (fail) | go_big_quiet_step (exact calls_grow (end_calls _)))
          refine wpQuiet_nil ?_
          rintro w' ⟨r, rfl⟩
          replace O := O.out.gr (grow_below w30 r)
          clear m31 B31
          generalize grow w30 r = w31 at *
          obtain ⟨xs32, own32, ints32, G32⟩ := O
          have O : Out w _ _ w31 := ⟨xs32, own32, ints32, G32⟩
          have B32 := hB.below G32 hB.lt
          have m32 := growc (B32.at_ (i := 1) (v := .int .i64 b) rfl)
          replace O := Lib.hid O
          clear own32 ints32
          go_wp2
          refine wp_region_grow (by kernel_rfl) (by kernel_rfl) ?_
          repeat (first | go_big_quiet_step (fail) | go_big_quiet_step (exact calls_grow (end_calls _)))
          refine wpQuiet_nil ?_
          rintro w' ⟨r, rfl⟩
          replace O := O.out.gr (grow_below w31 r)
          clear m32 B32
          generalize grow w31 r = w32 at *
          go_wp2
          go_roundw
          case rel => exact ⟨1, _, by omega, by go_num, by omega, O⟩
          case measure => simp [intOf]
    · by_cases h1a : -9 < c
      · by_cases h1b : c < 4611686018427387904
        · have q1 : decide (-9 < c) = true := decide_eq_true h1a
          have q2 : decide (c < 4611686018427387904) = true := decide_eq_true h1b
          by_cases h2a : -9 < d
          · by_cases h2b : d < 4611686018427387904
            · have q3 : decide (-9 < d) = true := decide_eq_true h2a
              have q4 : decide (d < 4611686018427387904) = true := decide_eq_true h2b
              obtain ⟨xs33, own33, ints33, G33⟩ := O
              have B33 := hB.below G33 hB.lt
              have c330 : wr.cell? ⟨g, 2, none⟩ = some (.int .i64 c) := B33.at_ rfl
              have e330 : ∀ o, (wr.alloc o).cell? ⟨g, 2, none⟩ = some (.int .i64 c) := fun o => (B33.alloc o).at_ rfl
              have c331 : wr.cell? ⟨g, 3, none⟩ = some (.int .i64 d) := B33.at_ rfl
              have e331 : ∀ o, (wr.alloc o).cell? ⟨g, 3, none⟩ = some (.int .i64 d) := fun o => (B33.alloc o).at_ rfl
              have rv33 : RV (wr.alloc (.cells #[.int .i64 (c), .int .i64 (d)] 2)).drew (some ⟨wr.heap.size, 0, none⟩) [.int .i64 (c), .int .i64 (d)] := RV.new wr [.int .i64 (c), .int .i64 (d)] 2 (0, 0)
              have z33 := Below.size G33
              have HO33 := Lib.hid own33
              have HI33 := Lib.hid ints33
              clear own33 ints33
              go_wp2
              go_region_held_law (fun wq => wq.cell? ⟨g, 2, none⟩ = some (.int .i64 c) ∧ wq.cell? ⟨g, 3, none⟩ = some (.int .i64 d)) (first | exact ⟨c330, c331⟩ | exact ⟨e330 _, e331 _⟩ | exact ⟨k330, k331⟩) ((refine step_append_rv (A := some ⟨wr.heap.size, 0, none⟩) (m := 2) (c := 2) (v := _) (news := [.int .i64 (c), .int .i64 (d)]) el_i64 rfl (.tmp 14) (.tmp 25) rfl rfl ((HO33.out.alloc _).drew) rfl rfl rv33 (one2 _ _) (by unfold maxLen; omega) (by omega) (by simp; omega) ?_; intro v33 w33 own33' gr33 hv33; (have O33 := Lib.hid (Out.app HO33.out HI33.out G33 (ints2 _ _) own33' gr33)); (have K33 := hB.below O33.out.g hB.lt); (have k330 := K33.at_ (i := 2) (v := .int .i64 c) rfl); (have k331 := K33.at_ (i := 3) (v := .int .i64 d) rfl); clear K33 own33' gr33 hv33))
              go_simp
              have O := O33.out
              clear rv33 HO33 HI33 B33 c330 e330 k330 c331 e331 k331
              obtain ⟨xs34, own34, ints34, G34⟩ := O
              have O : Out w _ _ w33 := ⟨xs34, own34, ints34, G34⟩
              have B34 := hB.below G34 hB.lt
              have m34 := growc (B34.at_ (i := 2) (v := .int .i64 c) rfl)
              replace O := Lib.hid O
              clear own34 ints34
              go_wp2
              refine wp_region_grow (by kernel_rfl) (by kernel_rfl) ?_
              repeat (first | go_big_quiet_step (fail) | go_big_quiet_step (exact calls_grow (end_calls _)))
              refine wpQuiet_nil ?_
              rintro w' ⟨r, rfl⟩
              replace O := O.out.gr (grow_below w33 r)
              clear m34 B34
              generalize grow w33 r = w34 at *
              obtain ⟨xs35, own35, ints35, G35⟩ := O
              have B35 := hB.below G35 hB.lt
              have c350 : w34.cell? ⟨g, 2, none⟩ = some (.int .i64 c) := B35.at_ rfl
              have e350 : ∀ o, (w34.alloc o).cell? ⟨g, 2, none⟩ = some (.int .i64 c) := fun o => (B35.alloc o).at_ rfl
              have rv35 : RV (w34.alloc (.cells #[.int .i64 (IntKind.i64.wrap (c - 1)), .int .i64 (IntKind.i64.wrap (c + 1))] 2)).drew (some ⟨w34.heap.size, 0, none⟩) [.int .i64 (IntKind.i64.wrap (c - 1)), .int .i64 (IntKind.i64.wrap (c + 1))] := RV.new w34 [.int .i64 (IntKind.i64.wrap (c - 1)), .int .i64 (IntKind.i64.wrap (c + 1))] 2 (0, 0)
              have z35 := Below.size G35
              have HO35 := Lib.hid own35
              have HI35 := Lib.hid ints35
              clear own35 ints35
              go_wp2
              go_region_held_law (fun wq => wq.cell? ⟨g, 2, none⟩ = some (.int .i64 c)) (first | exact c350 | exact e350 _ | exact k350) ((refine step_append_rv (A := some ⟨w34.heap.size, 0, none⟩) (m := 2) (c := 2) (v := _) (news := [.int .i64 (IntKind.i64.wrap (c - 1)), .int .i64 (IntKind.i64.wrap (c + 1))]) el_i64 rfl (.tmp 42) (.tmp 55) rfl rfl ((HO35.out.alloc _).drew) rfl rfl rv35 (one2 _ _) (by unfold maxLen; omega) (by omega) (by simp; omega) ?_; intro v35 w35 own35' gr35 hv35; (have O35 := Lib.hid (Out.app HO35.out HI35.out G35 (ints2 _ _) own35' gr35)); (have K35 := hB.below O35.out.g hB.lt); (have k350 := K35.at_ (i := 2) (v := .int .i64 c) rfl); clear K35 own35' gr35 hv35))
              go_simp
              have O := O35.out
              clear rv35 HO35 HI35 B35 c350 e350 k350
              obtain ⟨xs36, own36, ints36, G36⟩ := O
              have O : Out w _ _ w35 := ⟨xs36, own36, ints36, G36⟩
              have B36 := hB.below G36 hB.lt
              have m36 := growc (B36.at_ (i := 3) (v := .int .i64 d) rfl)
              replace O := Lib.hid O
              clear own36 ints36
              go_wp2
              refine wp_region_grow (by kernel_rfl) (by kernel_rfl) ?_
              repeat (first | go_big_quiet_step (fail) | go_big_quiet_step (exact calls_grow (end_calls _)))
              refine wpQuiet_nil ?_
              rintro w' ⟨r, rfl⟩
              replace O := O.out.gr (grow_below w35 r)
              clear m36 B36
              generalize grow w35 r = w36 at *
              obtain ⟨xs37, own37, ints37, G37⟩ := O
              have B37 := hB.below G37 hB.lt
              have c370 : w36.cell? ⟨g, 3, none⟩ = some (.int .i64 d) := B37.at_ rfl
              have e370 : ∀ o, (w36.alloc o).cell? ⟨g, 3, none⟩ = some (.int .i64 d) := fun o => (B37.alloc o).at_ rfl
              have rv37 : RV (w36.alloc (.cells #[.int .i64 (IntKind.i64.wrap (d - 1)), .int .i64 (IntKind.i64.wrap (d + 1))] 2)).drew (some ⟨w36.heap.size, 0, none⟩) [.int .i64 (IntKind.i64.wrap (d - 1)), .int .i64 (IntKind.i64.wrap (d + 1))] := RV.new w36 [.int .i64 (IntKind.i64.wrap (d - 1)), .int .i64 (IntKind.i64.wrap (d + 1))] 2 (0, 0)
              have z37 := Below.size G37
              have HO37 := Lib.hid own37
              have HI37 := Lib.hid ints37
              clear own37 ints37
              go_wp2
              go_region_held_law (fun wq => wq.cell? ⟨g, 3, none⟩ = some (.int .i64 d)) (first | exact c370 | exact e370 _ | exact k370) ((refine step_append_rv (A := some ⟨w36.heap.size, 0, none⟩) (m := 2) (c := 2) (v := _) (news := [.int .i64 (IntKind.i64.wrap (d - 1)), .int .i64 (IntKind.i64.wrap (d + 1))]) el_i64 rfl (.tmp 72) (.tmp 85) rfl rfl ((HO37.out.alloc _).drew) rfl rfl rv37 (one2 _ _) (by unfold maxLen; omega) (by omega) (by simp; omega) ?_; intro v37 w37 own37' gr37 hv37; (have O37 := Lib.hid (Out.app HO37.out HI37.out G37 (ints2 _ _) own37' gr37)); (have K37 := hB.below O37.out.g hB.lt); (have k370 := K37.at_ (i := 3) (v := .int .i64 d) rfl); clear K37 own37' gr37 hv37))
              go_simp
              have O := O37.out
              clear rv37 HO37 HI37 B37 c370 e370 k370
              go_wp2
              go_roundw
              case rel => exact ⟨2, _, by omega, by go_num, by omega, O⟩
              case measure => simp [intOf]
            · have q3 : decide (-9 < d) = true := decide_eq_true h2a
              have q4 : decide (d < 4611686018427387904) = false := decide_eq_false h2b
              obtain ⟨xs38, own38, ints38, G38⟩ := O
              have B38 := hB.below G38 hB.lt
              have c380 : wr.cell? ⟨g, 2, none⟩ = some (.int .i64 c) := B38.at_ rfl
              have e380 : ∀ o, (wr.alloc o).cell? ⟨g, 2, none⟩ = some (.int .i64 c) := fun o => (B38.alloc o).at_ rfl
              have c381 : wr.cell? ⟨g, 3, none⟩ = some (.int .i64 d) := B38.at_ rfl
              have e381 : ∀ o, (wr.alloc o).cell? ⟨g, 3, none⟩ = some (.int .i64 d) := fun o => (B38.alloc o).at_ rfl
              have rv38 : RV (wr.alloc (.cells #[.int .i64 (c), .int .i64 (d)] 2)).drew (some ⟨wr.heap.size, 0, none⟩) [.int .i64 (c), .int .i64 (d)] := RV.new wr [.int .i64 (c), .int .i64 (d)] 2 (0, 0)
              have z38 := Below.size G38
              have HO38 := Lib.hid own38
              have HI38 := Lib.hid ints38
              clear own38 ints38
              go_wp2
              go_region_held_law (fun wq => wq.cell? ⟨g, 2, none⟩ = some (.int .i64 c) ∧ wq.cell? ⟨g, 3, none⟩ = some (.int .i64 d)) (first | exact ⟨c380, c381⟩ | exact ⟨e380 _, e381 _⟩ | exact ⟨k380, k381⟩) ((refine step_append_rv (A := some ⟨wr.heap.size, 0, none⟩) (m := 2) (c := 2) (v := _) (news := [.int .i64 (c), .int .i64 (d)]) el_i64 rfl (.tmp 14) (.tmp 25) rfl rfl ((HO38.out.alloc _).drew) rfl rfl rv38 (one2 _ _) (by unfold maxLen; omega) (by omega) (by simp; omega) ?_; intro v38 w38 own38' gr38 hv38; (have O38 := Lib.hid (Out.app HO38.out HI38.out G38 (ints2 _ _) own38' gr38)); (have K38 := hB.below O38.out.g hB.lt); (have k380 := K38.at_ (i := 2) (v := .int .i64 c) rfl); (have k381 := K38.at_ (i := 3) (v := .int .i64 d) rfl); clear K38 own38' gr38 hv38))
              go_simp
              have O := O38.out
              clear rv38 HO38 HI38 B38 c380 e380 k380 c381 e381 k381
              obtain ⟨xs39, own39, ints39, G39⟩ := O
              have O : Out w _ _ w38 := ⟨xs39, own39, ints39, G39⟩
              have B39 := hB.below G39 hB.lt
              have m39 := growc (B39.at_ (i := 2) (v := .int .i64 c) rfl)
              replace O := Lib.hid O
              clear own39 ints39
              go_wp2
              refine wp_region_grow (by kernel_rfl) (by kernel_rfl) ?_
              repeat (first | go_big_quiet_step (fail) | go_big_quiet_step (exact calls_grow (end_calls _)))
              refine wpQuiet_nil ?_
              rintro w' ⟨r, rfl⟩
              replace O := O.out.gr (grow_below w38 r)
              clear m39 B39
              generalize grow w38 r = w39 at *
              obtain ⟨xs40, own40, ints40, G40⟩ := O
              have B40 := hB.below G40 hB.lt
              have c400 : w39.cell? ⟨g, 2, none⟩ = some (.int .i64 c) := B40.at_ rfl
              have e400 : ∀ o, (w39.alloc o).cell? ⟨g, 2, none⟩ = some (.int .i64 c) := fun o => (B40.alloc o).at_ rfl
              have rv40 : RV (w39.alloc (.cells #[.int .i64 (IntKind.i64.wrap (c - 1)), .int .i64 (IntKind.i64.wrap (c + 1))] 2)).drew (some ⟨w39.heap.size, 0, none⟩) [.int .i64 (IntKind.i64.wrap (c - 1)), .int .i64 (IntKind.i64.wrap (c + 1))] := RV.new w39 [.int .i64 (IntKind.i64.wrap (c - 1)), .int .i64 (IntKind.i64.wrap (c + 1))] 2 (0, 0)
              have z40 := Below.size G40
              have HO40 := Lib.hid own40
              have HI40 := Lib.hid ints40
              clear own40 ints40
              go_wp2
              go_region_held_law (fun wq => wq.cell? ⟨g, 2, none⟩ = some (.int .i64 c)) (first | exact c400 | exact e400 _ | exact k400) ((refine step_append_rv (A := some ⟨w39.heap.size, 0, none⟩) (m := 2) (c := 2) (v := _) (news := [.int .i64 (IntKind.i64.wrap (c - 1)), .int .i64 (IntKind.i64.wrap (c + 1))]) el_i64 rfl (.tmp 42) (.tmp 55) rfl rfl ((HO40.out.alloc _).drew) rfl rfl rv40 (one2 _ _) (by unfold maxLen; omega) (by omega) (by simp; omega) ?_; intro v40 w40 own40' gr40 hv40; (have O40 := Lib.hid (Out.app HO40.out HI40.out G40 (ints2 _ _) own40' gr40)); (have K40 := hB.below O40.out.g hB.lt); (have k400 := K40.at_ (i := 2) (v := .int .i64 c) rfl); clear K40 own40' gr40 hv40))
              go_simp
              have O := O40.out
              clear rv40 HO40 HI40 B40 c400 e400 k400
              obtain ⟨xs41, own41, ints41, G41⟩ := O
              have O : Out w _ _ w40 := ⟨xs41, own41, ints41, G41⟩
              have B41 := hB.below G41 hB.lt
              have m41 := growc (B41.at_ (i := 3) (v := .int .i64 d) rfl)
              replace O := Lib.hid O
              clear own41 ints41
              go_wp2
              refine wp_region_grow (by kernel_rfl) (by kernel_rfl) ?_
              repeat (first | go_big_quiet_step (fail) | go_big_quiet_step (exact calls_grow (end_calls _)))
              refine wpQuiet_nil ?_
              rintro w' ⟨r, rfl⟩
              replace O := O.out.gr (grow_below w40 r)
              clear m41 B41
              generalize grow w40 r = w41 at *
              go_wp2
              go_roundw
              case rel => exact ⟨2, _, by omega, by go_num, by omega, O⟩
              case measure => simp [intOf]
          · have q3 : decide (-9 < d) = false := decide_eq_false h2a
            obtain ⟨xs42, own42, ints42, G42⟩ := O
            have B42 := hB.below G42 hB.lt
            have c420 : wr.cell? ⟨g, 2, none⟩ = some (.int .i64 c) := B42.at_ rfl
            have e420 : ∀ o, (wr.alloc o).cell? ⟨g, 2, none⟩ = some (.int .i64 c) := fun o => (B42.alloc o).at_ rfl
            have c421 : wr.cell? ⟨g, 3, none⟩ = some (.int .i64 d) := B42.at_ rfl
            have e421 : ∀ o, (wr.alloc o).cell? ⟨g, 3, none⟩ = some (.int .i64 d) := fun o => (B42.alloc o).at_ rfl
            have rv42 : RV (wr.alloc (.cells #[.int .i64 (c), .int .i64 (d)] 2)).drew (some ⟨wr.heap.size, 0, none⟩) [.int .i64 (c), .int .i64 (d)] := RV.new wr [.int .i64 (c), .int .i64 (d)] 2 (0, 0)
            have z42 := Below.size G42
            have HO42 := Lib.hid own42
            have HI42 := Lib.hid ints42
            clear own42 ints42
            go_wp2
            go_region_held_law (fun wq => wq.cell? ⟨g, 2, none⟩ = some (.int .i64 c) ∧ wq.cell? ⟨g, 3, none⟩ = some (.int .i64 d)) (first | exact ⟨c420, c421⟩ | exact ⟨e420 _, e421 _⟩ | exact ⟨k420, k421⟩) ((refine step_append_rv (A := some ⟨wr.heap.size, 0, none⟩) (m := 2) (c := 2) (v := _) (news := [.int .i64 (c), .int .i64 (d)]) el_i64 rfl (.tmp 14) (.tmp 25) rfl rfl ((HO42.out.alloc _).drew) rfl rfl rv42 (one2 _ _) (by unfold maxLen; omega) (by omega) (by simp; omega) ?_; intro v42 w42 own42' gr42 hv42; (have O42 := Lib.hid (Out.app HO42.out HI42.out G42 (ints2 _ _) own42' gr42)); (have K42 := hB.below O42.out.g hB.lt); (have k420 := K42.at_ (i := 2) (v := .int .i64 c) rfl); (have k421 := K42.at_ (i := 3) (v := .int .i64 d) rfl); clear K42 own42' gr42 hv42))
            go_simp
            have O := O42.out
            clear rv42 HO42 HI42 B42 c420 e420 k420 c421 e421 k421
            obtain ⟨xs43, own43, ints43, G43⟩ := O
            have O : Out w _ _ w42 := ⟨xs43, own43, ints43, G43⟩
            have B43 := hB.below G43 hB.lt
            have m43 := growc (B43.at_ (i := 2) (v := .int .i64 c) rfl)
            replace O := Lib.hid O
            clear own43 ints43
            go_wp2
            refine wp_region_grow (by kernel_rfl) (by kernel_rfl) ?_
            repeat (first | go_big_quiet_step (fail) | go_big_quiet_step (exact calls_grow (end_calls _)))
            refine wpQuiet_nil ?_
            rintro w' ⟨r, rfl⟩
            replace O := O.out.gr (grow_below w42 r)
            clear m43 B43
            generalize grow w42 r = w43 at *
            obtain ⟨xs44, own44, ints44, G44⟩ := O
            have B44 := hB.below G44 hB.lt
            have c440 : w43.cell? ⟨g, 2, none⟩ = some (.int .i64 c) := B44.at_ rfl
            have e440 : ∀ o, (w43.alloc o).cell? ⟨g, 2, none⟩ = some (.int .i64 c) := fun o => (B44.alloc o).at_ rfl
            have rv44 : RV (w43.alloc (.cells #[.int .i64 (IntKind.i64.wrap (c - 1)), .int .i64 (IntKind.i64.wrap (c + 1))] 2)).drew (some ⟨w43.heap.size, 0, none⟩) [.int .i64 (IntKind.i64.wrap (c - 1)), .int .i64 (IntKind.i64.wrap (c + 1))] := RV.new w43 [.int .i64 (IntKind.i64.wrap (c - 1)), .int .i64 (IntKind.i64.wrap (c + 1))] 2 (0, 0)
            have z44 := Below.size G44
            have HO44 := Lib.hid own44
            have HI44 := Lib.hid ints44
            clear own44 ints44
            go_wp2
            go_region_held_law (fun wq => wq.cell? ⟨g, 2, none⟩ = some (.int .i64 c)) (first | exact c440 | exact e440 _ | exact k440) ((refine step_append_rv (A := some ⟨w43.heap.size, 0, none⟩) (m := 2) (c := 2) (v := _) (news := [.int .i64 (IntKind.i64.wrap (c - 1)), .int .i64 (IntKind.i64.wrap (c + 1))]) el_i64 rfl (.tmp 42) (.tmp 55) rfl rfl ((HO44.out.alloc _).drew) rfl rfl rv44 (one2 _ _) (by unfold maxLen; omega) (by omega) (by simp; omega) ?_; intro v44 w44 own44' gr44 hv44; (have O44 := Lib.hid (Out.app HO44.out HI44.out G44 (ints2 _ _) own44' gr44)); (have K44 := hB.below O44.out.g hB.lt); (have k440 := K44.at_ (i := 2) (v := .int .i64 c) rfl); clear K44 own44' gr44 hv44))
            go_simp
            have O := O44.out
            clear rv44 HO44 HI44 B44 c440 e440 k440
            obtain ⟨xs45, own45, ints45, G45⟩ := O
            have O : Out w _ _ w44 := ⟨xs45, own45, ints45, G45⟩
            have B45 := hB.below G45 hB.lt
            have m45 := growc (B45.at_ (i := 3) (v := .int .i64 d) rfl)
            replace O := Lib.hid O
            clear own45 ints45
            go_wp2
            refine wp_region_grow (by kernel_rfl) (by kernel_rfl) ?_
            repeat (first | go_big_quiet_step (fail) | go_big_quiet_step (exact calls_grow (end_calls _)))
            refine wpQuiet_nil ?_
            rintro w' ⟨r, rfl⟩
            replace O := O.out.gr (grow_below w44 r)
            clear m45 B45
            generalize grow w44 r = w45 at *
            go_wp2
            go_roundw
            case rel => exact ⟨2, _, by omega, by go_num, by omega, O⟩
            case measure => simp [intOf]
        · have q1 : decide (-9 < c) = true := decide_eq_true h1a
          have q2 : decide (c < 4611686018427387904) = false := decide_eq_false h1b
          by_cases h2a : -9 < d
          · by_cases h2b : d < 4611686018427387904
            · have q3 : decide (-9 < d) = true := decide_eq_true h2a
              have q4 : decide (d < 4611686018427387904) = true := decide_eq_true h2b
              obtain ⟨xs46, own46, ints46, G46⟩ := O
              have B46 := hB.below G46 hB.lt
              have c460 : wr.cell? ⟨g, 2, none⟩ = some (.int .i64 c) := B46.at_ rfl
              have e460 : ∀ o, (wr.alloc o).cell? ⟨g, 2, none⟩ = some (.int .i64 c) := fun o => (B46.alloc o).at_ rfl
              have c461 : wr.cell? ⟨g, 3, none⟩ = some (.int .i64 d) := B46.at_ rfl
              have e461 : ∀ o, (wr.alloc o).cell? ⟨g, 3, none⟩ = some (.int .i64 d) := fun o => (B46.alloc o).at_ rfl
              have rv46 : RV (wr.alloc (.cells #[.int .i64 (c), .int .i64 (d)] 2)).drew (some ⟨wr.heap.size, 0, none⟩) [.int .i64 (c), .int .i64 (d)] := RV.new wr [.int .i64 (c), .int .i64 (d)] 2 (0, 0)
              have z46 := Below.size G46
              have HO46 := Lib.hid own46
              have HI46 := Lib.hid ints46
              clear own46 ints46
              go_wp2
              go_region_held_law (fun wq => wq.cell? ⟨g, 2, none⟩ = some (.int .i64 c) ∧ wq.cell? ⟨g, 3, none⟩ = some (.int .i64 d)) (first | exact ⟨c460, c461⟩ | exact ⟨e460 _, e461 _⟩ | exact ⟨k460, k461⟩) ((refine step_append_rv (A := some ⟨wr.heap.size, 0, none⟩) (m := 2) (c := 2) (v := _) (news := [.int .i64 (c), .int .i64 (d)]) el_i64 rfl (.tmp 14) (.tmp 25) rfl rfl ((HO46.out.alloc _).drew) rfl rfl rv46 (one2 _ _) (by unfold maxLen; omega) (by omega) (by simp; omega) ?_; intro v46 w46 own46' gr46 hv46; (have O46 := Lib.hid (Out.app HO46.out HI46.out G46 (ints2 _ _) own46' gr46)); (have K46 := hB.below O46.out.g hB.lt); (have k460 := K46.at_ (i := 2) (v := .int .i64 c) rfl); (have k461 := K46.at_ (i := 3) (v := .int .i64 d) rfl); clear K46 own46' gr46 hv46))
              go_simp
              have O := O46.out
              clear rv46 HO46 HI46 B46 c460 e460 k460 c461 e461 k461
              obtain ⟨xs47, own47, ints47, G47⟩ := O
              have O : Out w _ _ w46 := ⟨xs47, own47, ints47, G47⟩
              have B47 := hB.below G47 hB.lt
              have m47 := growc (B47.at_ (i := 2) (v := .int .i64 c) rfl)
              replace O := Lib.hid O
              clear own47 ints47
              go_wp2
              refine wp_region_grow (by kernel_rfl) (by kernel_rfl) ?_
              repeat (first | go_big_quiet_step (fail) | go_big_quiet_step (exact calls_grow (end_calls _)))
              refine wpQuiet_nil ?_
              rintro w' ⟨r, rfl⟩
              replace O := O.out.gr (grow_below w46 r)
              clear m47 B47
              generalize grow w46 r = w47 at *
              obtain ⟨xs48, own48, ints48, G48⟩ := O
              have O : Out w _ _ w47 := ⟨xs48, own48, ints48, G48⟩
              have B48 := hB.below G48 hB.lt
              have m48 := growc (B48.at_ (i := 3) (v := .int .i64 d) rfl)
              replace O := Lib.hid O
              clear own48 ints48
              go_wp2
              refine wp_region_grow (by kernel_rfl) (by kernel_rfl) ?_
              repeat (first | go_big_quiet_step (fail) | go_big_quiet_step (exact calls_grow (end_calls _)))
              refine wpQuiet_nil ?_
              rintro w' ⟨r, rfl⟩
              replace O := O.out.gr (grow_below w47 r)
              clear m48 B48
              generalize grow w47 r = w48 at *
              obtain ⟨xs49, own49, ints49, G49⟩ := O
              have B49 := hB.below G49 hB.lt
              have c490 : w48.cell? ⟨g, 3, none⟩ = some (.int .i64 d) := B49.at_ rfl
              have e490 : ∀ o, (w48.alloc o).cell? ⟨g, 3, none⟩ = some (.int .i64 d) := fun o => (B49.alloc o).at_ rfl
              have rv49 : RV (w48.alloc (.cells #[.int .i64 (IntKind.i64.wrap (d - 1)), .int .i64 (IntKind.i64.wrap (d + 1))] 2)).drew (some ⟨w48.heap.size, 0, none⟩) [.int .i64 (IntKind.i64.wrap (d - 1)), .int .i64 (IntKind.i64.wrap (d + 1))] := RV.new w48 [.int .i64 (IntKind.i64.wrap (d - 1)), .int .i64 (IntKind.i64.wrap (d + 1))] 2 (0, 0)
              have z49 := Below.size G49
              have HO49 := Lib.hid own49
              have HI49 := Lib.hid ints49
              clear own49 ints49
              go_wp2
              go_region_held_law (fun wq => wq.cell? ⟨g, 3, none⟩ = some (.int .i64 d)) (first | exact c490 | exact e490 _ | exact k490) ((refine step_append_rv (A := some ⟨w48.heap.size, 0, none⟩) (m := 2) (c := 2) (v := _) (news := [.int .i64 (IntKind.i64.wrap (d - 1)), .int .i64 (IntKind.i64.wrap (d + 1))]) el_i64 rfl (.tmp 72) (.tmp 85) rfl rfl ((HO49.out.alloc _).drew) rfl rfl rv49 (one2 _ _) (by unfold maxLen; omega) (by omega) (by simp; omega) ?_; intro v49 w49 own49' gr49 hv49; (have O49 := Lib.hid (Out.app HO49.out HI49.out G49 (ints2 _ _) own49' gr49)); (have K49 := hB.below O49.out.g hB.lt); (have k490 := K49.at_ (i := 3) (v := .int .i64 d) rfl); clear K49 own49' gr49 hv49))
              go_simp
              have O := O49.out
              clear rv49 HO49 HI49 B49 c490 e490 k490
              go_wp2
              go_roundw
              case rel => exact ⟨2, _, by omega, by go_num, by omega, O⟩
              case measure => simp [intOf]
            · have q3 : decide (-9 < d) = true := decide_eq_true h2a
              have q4 : decide (d < 4611686018427387904) = false := decide_eq_false h2b
              obtain ⟨xs50, own50, ints50, G50⟩ := O
              have B50 := hB.below G50 hB.lt
              have c500 : wr.cell? ⟨g, 2, none⟩ = some (.int .i64 c) := B50.at_ rfl
              have e500 : ∀ o, (wr.alloc o).cell? ⟨g, 2, none⟩ = some (.int .i64 c) := fun o => (B50.alloc o).at_ rfl
              have c501 : wr.cell? ⟨g, 3, none⟩ = some (.int .i64 d) := B50.at_ rfl
              have e501 : ∀ o, (wr.alloc o).cell? ⟨g, 3, none⟩ = some (.int .i64 d) := fun o => (B50.alloc o).at_ rfl
              have rv50 : RV (wr.alloc (.cells #[.int .i64 (c), .int .i64 (d)] 2)).drew (some ⟨wr.heap.size, 0, none⟩) [.int .i64 (c), .int .i64 (d)] := RV.new wr [.int .i64 (c), .int .i64 (d)] 2 (0, 0)
              have z50 := Below.size G50
              have HO50 := Lib.hid own50
              have HI50 := Lib.hid ints50
              clear own50 ints50
              go_wp2
              go_region_held_law (fun wq => wq.cell? ⟨g, 2, none⟩ = some (.int .i64 c) ∧ wq.cell? ⟨g, 3, none⟩ = some (.int .i64 d)) (first | exact ⟨c500, c501⟩ | exact ⟨e500 _, e501 _⟩ | exact ⟨k500, k501⟩) ((refine step_append_rv (A := some ⟨wr.heap.size, 0, none⟩) (m := 2) (c := 2) (v := _) (news := [.int .i64 (c), .int .i64 (d)]) el_i64 rfl (.tmp 14) (.tmp 25) rfl rfl ((HO50.out.alloc _).drew) rfl rfl rv50 (one2 _ _) (by unfold maxLen; omega) (by omega) (by simp; omega) ?_; intro v50 w50 own50' gr50 hv50; (have O50 := Lib.hid (Out.app HO50.out HI50.out G50 (ints2 _ _) own50' gr50)); (have K50 := hB.below O50.out.g hB.lt); (have k500 := K50.at_ (i := 2) (v := .int .i64 c) rfl); (have k501 := K50.at_ (i := 3) (v := .int .i64 d) rfl); clear K50 own50' gr50 hv50))
              go_simp
              have O := O50.out
              clear rv50 HO50 HI50 B50 c500 e500 k500 c501 e501 k501
              obtain ⟨xs51, own51, ints51, G51⟩ := O
              have O : Out w _ _ w50 := ⟨xs51, own51, ints51, G51⟩
              have B51 := hB.below G51 hB.lt
              have m51 := growc (B51.at_ (i := 2) (v := .int .i64 c) rfl)
              replace O := Lib.hid O
              clear own51 ints51
              go_wp2
              refine wp_region_grow (by kernel_rfl) (by kernel_rfl) ?_
              repeat (first | go_big_quiet_step (fail) | go_big_quiet_step (exact calls_grow (end_calls _)))
              refine wpQuiet_nil ?_
              rintro w' ⟨r, rfl⟩
              replace O := O.out.gr (grow_below w50 r)
              clear m51 B51
              generalize grow w50 r = w51 at *
              obtain ⟨xs52, own52, ints52, G52⟩ := O
              have O : Out w _ _ w51 := ⟨xs52, own52, ints52, G52⟩
              have B52 := hB.below G52 hB.lt
              have m52 := growc (B52.at_ (i := 3) (v := .int .i64 d) rfl)
              replace O := Lib.hid O
              clear own52 ints52
              go_wp2
              refine wp_region_grow (by kernel_rfl) (by kernel_rfl) ?_
              repeat (first | go_big_quiet_step (fail) | go_big_quiet_step (exact calls_grow (end_calls _)))
              refine wpQuiet_nil ?_
              rintro w' ⟨r, rfl⟩
              replace O := O.out.gr (grow_below w51 r)
              clear m52 B52
              generalize grow w51 r = w52 at *
              go_wp2
              go_roundw
              case rel => exact ⟨2, _, by omega, by go_num, by omega, O⟩
              case measure => simp [intOf]
          · have q3 : decide (-9 < d) = false := decide_eq_false h2a
            obtain ⟨xs53, own53, ints53, G53⟩ := O
            have B53 := hB.below G53 hB.lt
            have c530 : wr.cell? ⟨g, 2, none⟩ = some (.int .i64 c) := B53.at_ rfl
            have e530 : ∀ o, (wr.alloc o).cell? ⟨g, 2, none⟩ = some (.int .i64 c) := fun o => (B53.alloc o).at_ rfl
            have c531 : wr.cell? ⟨g, 3, none⟩ = some (.int .i64 d) := B53.at_ rfl
            have e531 : ∀ o, (wr.alloc o).cell? ⟨g, 3, none⟩ = some (.int .i64 d) := fun o => (B53.alloc o).at_ rfl
            have rv53 : RV (wr.alloc (.cells #[.int .i64 (c), .int .i64 (d)] 2)).drew (some ⟨wr.heap.size, 0, none⟩) [.int .i64 (c), .int .i64 (d)] := RV.new wr [.int .i64 (c), .int .i64 (d)] 2 (0, 0)
            have z53 := Below.size G53
            have HO53 := Lib.hid own53
            have HI53 := Lib.hid ints53
            clear own53 ints53
            go_wp2
            go_region_held_law (fun wq => wq.cell? ⟨g, 2, none⟩ = some (.int .i64 c) ∧ wq.cell? ⟨g, 3, none⟩ = some (.int .i64 d)) (first | exact ⟨c530, c531⟩ | exact ⟨e530 _, e531 _⟩ | exact ⟨k530, k531⟩) ((refine step_append_rv (A := some ⟨wr.heap.size, 0, none⟩) (m := 2) (c := 2) (v := _) (news := [.int .i64 (c), .int .i64 (d)]) el_i64 rfl (.tmp 14) (.tmp 25) rfl rfl ((HO53.out.alloc _).drew) rfl rfl rv53 (one2 _ _) (by unfold maxLen; omega) (by omega) (by simp; omega) ?_; intro v53 w53 own53' gr53 hv53; (have O53 := Lib.hid (Out.app HO53.out HI53.out G53 (ints2 _ _) own53' gr53)); (have K53 := hB.below O53.out.g hB.lt); (have k530 := K53.at_ (i := 2) (v := .int .i64 c) rfl); (have k531 := K53.at_ (i := 3) (v := .int .i64 d) rfl); clear K53 own53' gr53 hv53))
            go_simp
            have O := O53.out
            clear rv53 HO53 HI53 B53 c530 e530 k530 c531 e531 k531
            obtain ⟨xs54, own54, ints54, G54⟩ := O
            have O : Out w _ _ w53 := ⟨xs54, own54, ints54, G54⟩
            have B54 := hB.below G54 hB.lt
            have m54 := growc (B54.at_ (i := 2) (v := .int .i64 c) rfl)
            replace O := Lib.hid O
            clear own54 ints54
            go_wp2
            refine wp_region_grow (by kernel_rfl) (by kernel_rfl) ?_
            repeat (first | go_big_quiet_step (fail) | go_big_quiet_step (exact calls_grow (end_calls _)))
            refine wpQuiet_nil ?_
            rintro w' ⟨r, rfl⟩
            replace O := O.out.gr (grow_below w53 r)
            clear m54 B54
            generalize grow w53 r = w54 at *
            obtain ⟨xs55, own55, ints55, G55⟩ := O
            have O : Out w _ _ w54 := ⟨xs55, own55, ints55, G55⟩
            have B55 := hB.below G55 hB.lt
            have m55 := growc (B55.at_ (i := 3) (v := .int .i64 d) rfl)
            replace O := Lib.hid O
            clear own55 ints55
            go_wp2
            refine wp_region_grow (by kernel_rfl) (by kernel_rfl) ?_
            repeat (first | go_big_quiet_step (fail) | go_big_quiet_step (exact calls_grow (end_calls _)))
            refine wpQuiet_nil ?_
            rintro w' ⟨r, rfl⟩
            replace O := O.out.gr (grow_below w54 r)
            clear m55 B55
            generalize grow w54 r = w55 at *
            go_wp2
            go_roundw
            case rel => exact ⟨2, _, by omega, by go_num, by omega, O⟩
            case measure => simp [intOf]
      · have q1 : decide (-9 < c) = false := decide_eq_false h1a
        by_cases h2a : -9 < d
        · by_cases h2b : d < 4611686018427387904
          · have q3 : decide (-9 < d) = true := decide_eq_true h2a
            have q4 : decide (d < 4611686018427387904) = true := decide_eq_true h2b
            obtain ⟨xs56, own56, ints56, G56⟩ := O
            have B56 := hB.below G56 hB.lt
            have c560 : wr.cell? ⟨g, 2, none⟩ = some (.int .i64 c) := B56.at_ rfl
            have e560 : ∀ o, (wr.alloc o).cell? ⟨g, 2, none⟩ = some (.int .i64 c) := fun o => (B56.alloc o).at_ rfl
            have c561 : wr.cell? ⟨g, 3, none⟩ = some (.int .i64 d) := B56.at_ rfl
            have e561 : ∀ o, (wr.alloc o).cell? ⟨g, 3, none⟩ = some (.int .i64 d) := fun o => (B56.alloc o).at_ rfl
            have rv56 : RV (wr.alloc (.cells #[.int .i64 (c), .int .i64 (d)] 2)).drew (some ⟨wr.heap.size, 0, none⟩) [.int .i64 (c), .int .i64 (d)] := RV.new wr [.int .i64 (c), .int .i64 (d)] 2 (0, 0)
            have z56 := Below.size G56
            have HO56 := Lib.hid own56
            have HI56 := Lib.hid ints56
            clear own56 ints56
            go_wp2
            go_region_held_law (fun wq => wq.cell? ⟨g, 2, none⟩ = some (.int .i64 c) ∧ wq.cell? ⟨g, 3, none⟩ = some (.int .i64 d)) (first | exact ⟨c560, c561⟩ | exact ⟨e560 _, e561 _⟩ | exact ⟨k560, k561⟩) ((refine step_append_rv (A := some ⟨wr.heap.size, 0, none⟩) (m := 2) (c := 2) (v := _) (news := [.int .i64 (c), .int .i64 (d)]) el_i64 rfl (.tmp 14) (.tmp 25) rfl rfl ((HO56.out.alloc _).drew) rfl rfl rv56 (one2 _ _) (by unfold maxLen; omega) (by omega) (by simp; omega) ?_; intro v56 w56 own56' gr56 hv56; (have O56 := Lib.hid (Out.app HO56.out HI56.out G56 (ints2 _ _) own56' gr56)); (have K56 := hB.below O56.out.g hB.lt); (have k560 := K56.at_ (i := 2) (v := .int .i64 c) rfl); (have k561 := K56.at_ (i := 3) (v := .int .i64 d) rfl); clear K56 own56' gr56 hv56))
            go_simp
            have O := O56.out
            clear rv56 HO56 HI56 B56 c560 e560 k560 c561 e561 k561
            obtain ⟨xs57, own57, ints57, G57⟩ := O
            have O : Out w _ _ w56 := ⟨xs57, own57, ints57, G57⟩
            have B57 := hB.below G57 hB.lt
            have m57 := growc (B57.at_ (i := 2) (v := .int .i64 c) rfl)
            replace O := Lib.hid O
            clear own57 ints57
            go_wp2
            refine wp_region_grow (by kernel_rfl) (by kernel_rfl) ?_
            repeat (first | go_big_quiet_step (fail) | go_big_quiet_step (exact calls_grow (end_calls _)))
            refine wpQuiet_nil ?_
            rintro w' ⟨r, rfl⟩
            replace O := O.out.gr (grow_below w56 r)
            clear m57 B57
            generalize grow w56 r = w57 at *
            obtain ⟨xs58, own58, ints58, G58⟩ := O
            have O : Out w _ _ w57 := ⟨xs58, own58, ints58, G58⟩
            have B58 := hB.below G58 hB.lt
            have m58 := growc (B58.at_ (i := 3) (v := .int .i64 d) rfl)
            replace O := Lib.hid O
            clear own58 ints58
            go_wp2
            refine wp_region_grow (by kernel_rfl) (by kernel_rfl) ?_
            repeat (first | go_big_quiet_step (fail) | go_big_quiet_step (exact calls_grow (end_calls _)))
            refine wpQuiet_nil ?_
            rintro w' ⟨r, rfl⟩
            replace O := O.out.gr (grow_below w57 r)
            clear m58 B58
            generalize grow w57 r = w58 at *
            obtain ⟨xs59, own59, ints59, G59⟩ := O
            have B59 := hB.below G59 hB.lt
            have c590 : w58.cell? ⟨g, 3, none⟩ = some (.int .i64 d) := B59.at_ rfl
            have e590 : ∀ o, (w58.alloc o).cell? ⟨g, 3, none⟩ = some (.int .i64 d) := fun o => (B59.alloc o).at_ rfl
            have rv59 : RV (w58.alloc (.cells #[.int .i64 (IntKind.i64.wrap (d - 1)), .int .i64 (IntKind.i64.wrap (d + 1))] 2)).drew (some ⟨w58.heap.size, 0, none⟩) [.int .i64 (IntKind.i64.wrap (d - 1)), .int .i64 (IntKind.i64.wrap (d + 1))] := RV.new w58 [.int .i64 (IntKind.i64.wrap (d - 1)), .int .i64 (IntKind.i64.wrap (d + 1))] 2 (0, 0)
            have z59 := Below.size G59
            have HO59 := Lib.hid own59
            have HI59 := Lib.hid ints59
            clear own59 ints59
            go_wp2
            go_region_held_law (fun wq => wq.cell? ⟨g, 3, none⟩ = some (.int .i64 d)) (first | exact c590 | exact e590 _ | exact k590) ((refine step_append_rv (A := some ⟨w58.heap.size, 0, none⟩) (m := 2) (c := 2) (v := _) (news := [.int .i64 (IntKind.i64.wrap (d - 1)), .int .i64 (IntKind.i64.wrap (d + 1))]) el_i64 rfl (.tmp 72) (.tmp 85) rfl rfl ((HO59.out.alloc _).drew) rfl rfl rv59 (one2 _ _) (by unfold maxLen; omega) (by omega) (by simp; omega) ?_; intro v59 w59 own59' gr59 hv59; (have O59 := Lib.hid (Out.app HO59.out HI59.out G59 (ints2 _ _) own59' gr59)); (have K59 := hB.below O59.out.g hB.lt); (have k590 := K59.at_ (i := 3) (v := .int .i64 d) rfl); clear K59 own59' gr59 hv59))
            go_simp
            have O := O59.out
            clear rv59 HO59 HI59 B59 c590 e590 k590
            go_wp2
            go_roundw
            case rel => exact ⟨2, _, by omega, by go_num, by omega, O⟩
            case measure => simp [intOf]
          · have q3 : decide (-9 < d) = true := decide_eq_true h2a
            have q4 : decide (d < 4611686018427387904) = false := decide_eq_false h2b
            obtain ⟨xs60, own60, ints60, G60⟩ := O
            have B60 := hB.below G60 hB.lt
            have c600 : wr.cell? ⟨g, 2, none⟩ = some (.int .i64 c) := B60.at_ rfl
            have e600 : ∀ o, (wr.alloc o).cell? ⟨g, 2, none⟩ = some (.int .i64 c) := fun o => (B60.alloc o).at_ rfl
            have c601 : wr.cell? ⟨g, 3, none⟩ = some (.int .i64 d) := B60.at_ rfl
            have e601 : ∀ o, (wr.alloc o).cell? ⟨g, 3, none⟩ = some (.int .i64 d) := fun o => (B60.alloc o).at_ rfl
            have rv60 : RV (wr.alloc (.cells #[.int .i64 (c), .int .i64 (d)] 2)).drew (some ⟨wr.heap.size, 0, none⟩) [.int .i64 (c), .int .i64 (d)] := RV.new wr [.int .i64 (c), .int .i64 (d)] 2 (0, 0)
            have z60 := Below.size G60
            have HO60 := Lib.hid own60
            have HI60 := Lib.hid ints60
            clear own60 ints60
            go_wp2
            go_region_held_law (fun wq => wq.cell? ⟨g, 2, none⟩ = some (.int .i64 c) ∧ wq.cell? ⟨g, 3, none⟩ = some (.int .i64 d)) (first | exact ⟨c600, c601⟩ | exact ⟨e600 _, e601 _⟩ | exact ⟨k600, k601⟩) ((refine step_append_rv (A := some ⟨wr.heap.size, 0, none⟩) (m := 2) (c := 2) (v := _) (news := [.int .i64 (c), .int .i64 (d)]) el_i64 rfl (.tmp 14) (.tmp 25) rfl rfl ((HO60.out.alloc _).drew) rfl rfl rv60 (one2 _ _) (by unfold maxLen; omega) (by omega) (by simp; omega) ?_; intro v60 w60 own60' gr60 hv60; (have O60 := Lib.hid (Out.app HO60.out HI60.out G60 (ints2 _ _) own60' gr60)); (have K60 := hB.below O60.out.g hB.lt); (have k600 := K60.at_ (i := 2) (v := .int .i64 c) rfl); (have k601 := K60.at_ (i := 3) (v := .int .i64 d) rfl); clear K60 own60' gr60 hv60))
            go_simp
            have O := O60.out
            clear rv60 HO60 HI60 B60 c600 e600 k600 c601 e601 k601
            obtain ⟨xs61, own61, ints61, G61⟩ := O
            have O : Out w _ _ w60 := ⟨xs61, own61, ints61, G61⟩
            have B61 := hB.below G61 hB.lt
            have m61 := growc (B61.at_ (i := 2) (v := .int .i64 c) rfl)
            replace O := Lib.hid O
            clear own61 ints61
            go_wp2
            refine wp_region_grow (by kernel_rfl) (by kernel_rfl) ?_
            repeat (first | go_big_quiet_step (fail) | go_big_quiet_step (exact calls_grow (end_calls _)))
            refine wpQuiet_nil ?_
            rintro w' ⟨r, rfl⟩
            replace O := O.out.gr (grow_below w60 r)
            clear m61 B61
            generalize grow w60 r = w61 at *
            obtain ⟨xs62, own62, ints62, G62⟩ := O
            have O : Out w _ _ w61 := ⟨xs62, own62, ints62, G62⟩
            have B62 := hB.below G62 hB.lt
            have m62 := growc (B62.at_ (i := 3) (v := .int .i64 d) rfl)
            replace O := Lib.hid O
            clear own62 ints62
            go_wp2
            refine wp_region_grow (by kernel_rfl) (by kernel_rfl) ?_
            repeat (first | go_big_quiet_step (fail) | go_big_quiet_step (exact calls_grow (end_calls _)))
            refine wpQuiet_nil ?_
            rintro w' ⟨r, rfl⟩
            replace O := O.out.gr (grow_below w61 r)
            clear m62 B62
            generalize grow w61 r = w62 at *
            go_wp2
            go_roundw
            case rel => exact ⟨2, _, by omega, by go_num, by omega, O⟩
            case measure => simp [intOf]
        · have q3 : decide (-9 < d) = false := decide_eq_false h2a
          obtain ⟨xs63, own63, ints63, G63⟩ := O
          have B63 := hB.below G63 hB.lt
          have c630 : wr.cell? ⟨g, 2, none⟩ = some (.int .i64 c) := B63.at_ rfl
          have e630 : ∀ o, (wr.alloc o).cell? ⟨g, 2, none⟩ = some (.int .i64 c) := fun o => (B63.alloc o).at_ rfl
          have c631 : wr.cell? ⟨g, 3, none⟩ = some (.int .i64 d) := B63.at_ rfl
          have e631 : ∀ o, (wr.alloc o).cell? ⟨g, 3, none⟩ = some (.int .i64 d) := fun o => (B63.alloc o).at_ rfl
          have rv63 : RV (wr.alloc (.cells #[.int .i64 (c), .int .i64 (d)] 2)).drew (some ⟨wr.heap.size, 0, none⟩) [.int .i64 (c), .int .i64 (d)] := RV.new wr [.int .i64 (c), .int .i64 (d)] 2 (0, 0)
          have z63 := Below.size G63
          have HO63 := Lib.hid own63
          have HI63 := Lib.hid ints63
          clear own63 ints63
          go_wp2
          go_region_held_law (fun wq => wq.cell? ⟨g, 2, none⟩ = some (.int .i64 c) ∧ wq.cell? ⟨g, 3, none⟩ = some (.int .i64 d)) (first | exact ⟨c630, c631⟩ | exact ⟨e630 _, e631 _⟩ | exact ⟨k630, k631⟩) ((refine step_append_rv (A := some ⟨wr.heap.size, 0, none⟩) (m := 2) (c := 2) (v := _) (news := [.int .i64 (c), .int .i64 (d)]) el_i64 rfl (.tmp 14) (.tmp 25) rfl rfl ((HO63.out.alloc _).drew) rfl rfl rv63 (one2 _ _) (by unfold maxLen; omega) (by omega) (by simp; omega) ?_; intro v63 w63 own63' gr63 hv63; (have O63 := Lib.hid (Out.app HO63.out HI63.out G63 (ints2 _ _) own63' gr63)); (have K63 := hB.below O63.out.g hB.lt); (have k630 := K63.at_ (i := 2) (v := .int .i64 c) rfl); (have k631 := K63.at_ (i := 3) (v := .int .i64 d) rfl); clear K63 own63' gr63 hv63))
          go_simp
          have O := O63.out
          clear rv63 HO63 HI63 B63 c630 e630 k630 c631 e631 k631
          obtain ⟨xs64, own64, ints64, G64⟩ := O
          have O : Out w _ _ w63 := ⟨xs64, own64, ints64, G64⟩
          have B64 := hB.below G64 hB.lt
          have m64 := growc (B64.at_ (i := 2) (v := .int .i64 c) rfl)
          replace O := Lib.hid O
          clear own64 ints64
          go_wp2
          refine wp_region_grow (by kernel_rfl) (by kernel_rfl) ?_
          repeat (first | go_big_quiet_step (fail) | go_big_quiet_step (exact calls_grow (end_calls _)))
          refine wpQuiet_nil ?_
          rintro w' ⟨r, rfl⟩
          replace O := O.out.gr (grow_below w63 r)
          clear m64 B64
          generalize grow w63 r = w64 at *
          obtain ⟨xs65, own65, ints65, G65⟩ := O
          have O : Out w _ _ w64 := ⟨xs65, own65, ints65, G65⟩
          have B65 := hB.below G65 hB.lt
          have m65 := growc (B65.at_ (i := 3) (v := .int .i64 d) rfl)
          replace O := Lib.hid O
          clear own65 ints65
          go_wp2
          refine wp_region_grow (by kernel_rfl) (by kernel_rfl) ?_
          repeat (first | go_big_quiet_step (fail) | go_big_quiet_step (exact calls_grow (end_calls _)))
          refine wpQuiet_nil ?_
          rintro w' ⟨r, rfl⟩
          replace O := O.out.gr (grow_below w64 r)
          clear m65 B65
          generalize grow w64 r = w65 at *
          go_wp2
          go_roundw
          case rel => exact ⟨2, _, by omega, by go_num, by omega, O⟩
          case measure => simp [intOf]
    · replace O := Lib.hid O
      go_wp2
      go_ret
      exact ⟨n, _, rfl, by omega, O.out⟩
end Go.Proofs.YtpcedmiehoimbaaDoor
