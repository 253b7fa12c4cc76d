/-
  Walks: Of: the places of a client's events; the document's gives them, the program's gives a function over them. Printed by ofgen.py.
-/
import Derived.Test.YtiokbebodblhaaaGreatDoorTraceLb
import Derived.Test.YtiokbebodblhaaaGreatDoorTraceAns
import Derived.Test.YtiokbebodblhaaaGreatDoorTraceSp
import Derived.Test.YtiokbebodblhaaaGreatDoorTAl
import Derived.Deep.Cut
namespace Go.Proofs.YtiokbebodblhaaaGreatDoor
open Go.RowKit TraceP
attribute [local go_sem] Row.val

theorem info_int : (Tryz.prog.info? 3).map (fun i => (i.zero, i.size, i.bytes)) = some (some (.int .i64 0), 1, 8) := by kernel_rfl
theorem el_int : El Tryz.prog 64 3 (.int .i64 0) 1 8 := ⟨info_parts info_int, Tryz.underlying64, rfl, by decide⟩
def iC (i : Int) : List Value := [.int .i64 i]
theorem iC_one (i : Int) : ∀ u ∈ iC i, u.oneCell' = true := fun u hu => by
  rw [List.mem_singleton.1 hu]
  rfl
theorem blk_grownO {w w' : World} {row : Option Nat} {g : Nat} {t : TypeId} {cs : Array Value} (h : Blk w g t cs) (q : w.grownBy w' row) (hr : some g ≠ row) : Blk w' g t cs := (q.block g h.lt hr).trans h
/-- Whole numbers in a row of one's own. -/
abbrev Ints (B : Nat) (w : World) (v : Value) (l : List Int) : Prop := w.ownsRow B 3 1 v l.length (fl iC l)
theorem Ints.nil (B : Nat) (w : World) : Ints B w (.slice none 0 0) [] := ⟨rfl, .inl ⟨rfl, rfl⟩⟩
theorem ofL_split (nd wh : Int) (L : List Evt) : ∀ k, k ≤ L.length → (ofL nd wh 0 L).length ≤ L.length := fun k _ => by
  have : ∀ (l : List Evt) (i : Nat), (ofL nd wh i l).length ≤ l.length := by
    intro l
    induction l with
    | nil => intro i; exact Nat.le_refl _
    | cons e r ih =>
      intro i
      have h := ih (i + 1)
      unfold ofL
      split <;> simp only [List.length_cons] <;> omega
  exact this L 0
theorem absL_dropO {l : List EvtR} {k : Nat} (h : k < l.length) : (absL l).drop k = l[k].abs :: (absL l).drop (k + 1) := by
  unfold absL
  rw [List.drop_eq_getElem_cons (by rw [List.length_map]; exact h), List.getElem_map]
theorem ofB_ways {nd wh : Int} {e : Evt} (h : ofB nd wh e = false) : decide ((6 : Int) ≤ e.kind) = false ∨ (decide ((6 : Int) ≤ e.kind) = true ∧ decide (e.kind ≤ (10 : Int)) = false) ∨ (decide ((6 : Int) ≤ e.kind) = true ∧ decide (e.kind ≤ (10 : Int)) = true ∧ (e.node == nd) = false) ∨ (decide ((6 : Int) ≤ e.kind) = true ∧ decide (e.kind ≤ (10 : Int)) = true ∧ (e.node == nd) = true ∧ (e.who == wh) = false) := by
  unfold ofB at h
  cases h1 : decide ((6 : Int) ≤ e.kind)
  · exact .inl rfl
  · cases h2 : decide (e.kind ≤ (10 : Int))
    · exact .inr (.inl ⟨rfl, rfl⟩)
    · by_cases h3 : e.node = nd
      · by_cases h4 : e.who = wh
        · simp [h1, h2, h3, h4] at h
        · exact .inr (.inr (.inr ⟨rfl, rfl, beq_iff_eq.2 h3, beq_eq_false_iff_ne.2 h4⟩))
      · exact .inr (.inr (.inl ⟨rfl, rfl, beq_eq_false_iff_ne.2 h3⟩))
theorem ofB_yes {nd wh : Int} {e : Evt} (h : ofB nd wh e = true) : decide ((6 : Int) ≤ e.kind) = true ∧ decide (e.kind ≤ (10 : Int)) = true ∧ (e.node == nd) = true ∧ (e.who == wh) = true := by
  unfold ofB at h
  simp only [Bool.and_eq_true, decide_eq_true_eq] at h
  obtain ⟨⟨⟨h1, h2⟩, h3⟩, h4⟩ := h
  exact ⟨decide_eq_true h1, decide_eq_true h2, beq_iff_eq.2 h3, beq_iff_eq.2 h4⟩
set_option maxRecDepth 100000 in
set_option maxHeartbeats 3200000 in
theorem dof_calls (w : World) (A : Option Addr) (c : Nat) (l : List EvtR) (hr : EvsOK w A l c) (lm : l.length ≤ 100000) (nd wh : Int) :
    Calls Tryz.prog 25 #[.slice A l.length c, .int .i64 nd, .int .i64 wh] w fun r w' => ∃ v, r = .returned v ∧ Ints w.heap.size w' v (ofL nd wh 0 (absL l)) ∧ Below w.heap.size w w' := by
  have lmax : l.length ≤ 9223372036854775807 := Nat.le_trans hr.le hr.cap
  obtain ⟨res, hres⟩ : ∃ x, x = ofL nd wh 0 (absL l) := ⟨_, rfl⟩
  rw [← hres]
  go_enter Tryz.func25, Tryz.ntmps25
  go_wp2_with fail
  go_loopw [7, 12] (fun v i wr => ∃ (k : Nat) (out : List Int), k ≤ l.length ∧ i = .int .i64 (k : Int) ∧ Hid (res = out ++ ofL nd wh k ((absL l).drop k)) ∧ Ints w.heap.size wr v out ∧ out.length ≤ k ∧ Below w.heap.size w wr) (fun _ i _ => l.length - (intOf i).toNat)
  case atStart => exact ⟨0, [], by omega, rfl, Lib.hid (by simpa using hres), Ints.nil _ _, Nat.le_refl _, Below.refl _ _⟩
  case round =>
  clear hres
  obtain ⟨k, out, hk, rfl, hR, own, hol, B⟩ := hrel
  obtain ⟨A1, c1, hv, hnc, hcm⟩ := own_form own
  subst hv
  by_cases hlt : k < l.length
  case neg =>
    obtain rfl : k = l.length := by omega
    have dec : decide ((l.length : Int) < (l.length : Int)) = false := decide_eq_false (by omega)
    have hR2 := hR.out
    rw [List.drop_eq_nil_of_le (by rw [absL_len]; exact Nat.le_refl _)] at hR2
    have hR3 : res = out := by rw [hR2]; simp [ofL]
    clear hR hR2
    replace hR3 := Lib.hid hR3
    go_wp2_with fail
    go_ret
    exact ⟨_, rfl, by rw [hR3.out]; exact own, B⟩
  have dec : decide ((k : Int) < (l.length : Int)) = true := decide_eq_true (by omega)
  have dec' : decide (k < l.length) = true := decide_eq_true hlt
  obtain ⟨b, off, rfl, hbs, hc⟩ := evt_at (hr.rv.below B) hlt
  have hd := absL_dropO hlt
  generalize l[k] = x at *
  have hR1 : res = out ++ (if ofB nd wh x.abs then (k : Int) :: ofL nd wh (k + 1) ((absL l).drop (k + 1)) else ofL nd wh (k + 1) ((absL l).drop (k + 1))) := by rw [hR.out, hd, ofL]
  clear hd hR
  replace hR1 := Lib.hid hR1
  go_upto_region 4 with fail
  with_reducible refine wp_region_lit ?_
  with_reducible refine wpList_cutAt 2 ?_
  simp only [List.take_succ_cons, List.take_zero, List.drop_succ_cons, List.drop_zero]
  go_wp2_with fail
  with_reducible refine CutQ.go_ ?_
  with_reducible refine wpList_load_mid rfl 45 (.tmp 15) rfl b (off + k * 57) (by kernel_rfl) x.cells _ hc Tryz.underlying45 (by kernel_rfl) (by kernel_rfl) ?_
  go_frame
  with_reducible refine wpList_cutAt 2 ?_
  simp only [List.take_succ_cons, List.take_zero, List.drop_succ_cons, List.drop_zero]
  repeat (first | go_values | go_skip | go_guarded | go_step | go_upon)
  with_reducible refine CutQ.go_ ?_
  with_reducible refine wpList_abs (fun w' => Blk w' wr.heap.size 45 zEvtR.cells.toArray ∧ Below wr.heap.size wr w') ?_ ?_
  · exact ⟨Blk.new wr 45 zEvtR.cells.toArray, below_new wr (.cells zEvtR.cells.toArray 45)⟩
  rintro wA0 ⟨bE0, dE0⟩
  have bE' : wA0.heap[wr.heap.size]? = some (Obj.cells zEvtR.cells.toArray 45) := bE0
  with_reducible refine wpList_store_row rfl 45 (.tmp 9) (.tmp 16) rfl wr.heap.size x.cells.toArray (by kernel_rfl) (by kernel_rfl) 45 zEvtR.cells.toArray bE' (by kernel_rfl) (by kernel_rfl) (by kernel_rfl) (wpList_nil ?_)
  have bE := bE0.setRow_ x.cells.toArray
  have dE := below_setRow dE0 (Nat.le_refl _) x.cells.toArray
  revert bE dE
  generalize wA0.setRow wr.heap.size x.cells.toArray = wA
  clear bE' bE0 dE0 wA0
  intro bE dE
  simp only [Act.put]
  have BA := B.trans (dE.mono B.size)
  have ownA := own_below own dE (fun k hk => (own.lt k hk).2)
  have f0 : wA.cell? ⟨wr.heap.size, 0, none⟩ = some (.int .i64 x.kind) := bE.at_ rfl
  have f2 : wA.cell? ⟨wr.heap.size, 2, none⟩ = some (.int .i64 x.node) := bE.at_ rfl
  have f3 : wA.cell? ⟨wr.heap.size, 3, none⟩ = some (.int .i64 x.who) := bE.at_ rfl
  clear hc hbs dE B own bE
  cases hb : ofB nd wh x.abs
  · have hR2 := hR1.out
    rw [if_neg (by rw [hb]; decide)] at hR2
    replace hR2 := Lib.hid hR2
    clear hR1
    have W := ofB_ways hb
    change decide ((6 : Int) ≤ x.kind) = false ∨ (decide ((6 : Int) ≤ x.kind) = true ∧ decide (x.kind ≤ (10 : Int)) = false) ∨ (decide ((6 : Int) ≤ x.kind) = true ∧ decide (x.kind ≤ (10 : Int)) = true ∧ (x.node == nd) = false) ∨ (decide ((6 : Int) ≤ x.kind) = true ∧ decide (x.kind ≤ (10 : Int)) = true ∧ (x.node == nd) = true ∧ (x.who == wh) = false) at W
    clear hb
    rcases W with d1 | ⟨d1, d2⟩ | ⟨d1, d2, d3⟩ | ⟨d1, d2, d3, d4⟩
    all_goals
      go_wp2_with fail
      go_roundw
      case rel => exact ⟨k + 1, out, by omega, by go_num, hR2, ownA, by omega, BA⟩
      case measure => simp [intOf]; omega
  · have hR2 := hR1.out
    rw [if_pos hb] at hR2
    have hR3 : res = (out ++ [(k : Int)]) ++ ofL nd wh (k + 1) ((absL l).drop (k + 1)) := by rw [hR2]; simp
    replace hR3 := Lib.hid hR3
    clear hR1 hR2
    obtain ⟨d1, d2, d3, d4⟩ := ofB_yes hb
    change decide ((6 : Int) ≤ x.kind) = true at d1
    change decide (x.kind ≤ (10 : Int)) = true at d2
    change (x.node == nd) = true at d3
    change (x.who == wh) = true at d4
    clear hb
    go_upto_region 6 with fail
    have own1 := own_below ownA (below_new wA (.cells #[.int .i64 (k : Int)] 3)) (fun k hk => (ownA.lt k hk).2)
    have B1 := BA.trans ((below_new wA (.cells #[.int .i64 (k : Int)] 3)).mono BA.size)
    have rv1 : RV (wA.alloc (.cells #[.int .i64 (k : Int)] 3)) (some ⟨wA.heap.size, 0, none⟩) (iC (k : Int)) := RV.new wA (iC (k : Int)) 3 (0, 0)
    with_reducible refine wp_region_lit ?_
    with_reducible refine wpList_cutAt 3 ?_
    simp only [List.take_succ_cons, List.take_zero, List.drop_succ_cons, List.drop_zero]
    repeat (first | go_values | go_skip | go_guarded | go_step | go_upon)
    with_reducible refine CutQ.go_ ?_
    with_reducible refine wpList_append_rv el_int (by kernel_rfl) (.tmp 37) (.tmp 39) rfl w.heap.size (.slice A1 out.length c1) out.length (fl iC out) (by kernel_rfl) own1 (some ⟨wA.heap.size, 0, none⟩) 1 1 (iC (k : Int)) (by kernel_rfl) (by kernel_rfl) rv1 (iC_one _) ?f2 ?f3 ?f4 ?_
    case f2 => unfold maxLen; omega
    case f3 => omega
    case f4 => exact B1.size
    intro v6 w6 own6 gr6 _
    have B6 : Below w.heap.size w w6 := below_grownS B1 gr6 (fun k hk => (own1.lt k hk).1)
    have own7 : Ints w.heap.size w6 v6 (out ++ [(k : Int)]) := by
      show w6.ownsRow _ _ _ _ (out ++ [(k : Int)]).length (fl iC (out ++ [(k : Int)]))
      rw [List.length_append, List.length_singleton, fl_append, fl_one]
      exact own6
    clear gr6 own6 own1 rv1 B1 ownA BA f0 f2 f3 d1 d2 d3 d4
    go_wp2_with fail
    go_roundw
    case rel => exact ⟨k + 1, out ++ [(k : Int)], by omega, by go_num, hR3, own7, by rw [List.length_append, List.length_singleton]; omega, B6⟩
    case measure => simp [intOf]; omega
set_option maxRecDepth 100000 in
set_option maxHeartbeats 3200000 in
theorem pof_calls (w : World) (A : Option Addr) (c : Nat) (l : List EvtR) (hr : EvsOK w A l c) (lm : l.length ≤ 100000) (nd wh : Int) :
    Calls Tryz.prog 26 #[.slice A l.length c, .int .i64 nd, .int .i64 wh] w fun r w' => ∃ v bx, r = .returned (.func (.func 112) #[] #[.pointer (some ⟨bx, 0, none⟩)]) ∧ Blk w' bx 64 #[v] ∧ w.heap.size ≤ bx ∧ Ints w.heap.size w' v (ofL nd wh 0 (absL l)) ∧ Below w.heap.size w w' := by
  have lmax : l.length ≤ 9223372036854775807 := Nat.le_trans hr.le hr.cap
  obtain ⟨res, hres⟩ : ∃ x, x = ofL nd wh 0 (absL l) := ⟨_, rfl⟩
  rw [← hres]
  go_enter Tryz.func26, Tryz.ntmps26
  go_wp2_with fail
  go_loopw [7, 12] (fun v i wr => ∃ (k : Nat) (out : List Int), k ≤ l.length ∧ i = .int .i64 (k : Int) ∧ Hid (res = out ++ ofL nd wh k ((absL l).drop k)) ∧ Ints w.heap.size wr v out ∧ out.length ≤ k ∧ Below w.heap.size w wr) (fun _ i _ => l.length - (intOf i).toNat)
  case atStart => exact ⟨0, [], by omega, rfl, Lib.hid (by simpa using hres), Ints.nil _ _, Nat.le_refl _, Below.refl _ _⟩
  case round =>
  clear hres
  obtain ⟨k, out, hk, rfl, hR, own, hol, B⟩ := hrel
  obtain ⟨A1, c1, hv, hnc, hcm⟩ := own_form own
  subst hv
  by_cases hlt : k < l.length
  case neg =>
    obtain rfl : k = l.length := by omega
    have dec : decide ((l.length : Int) < (l.length : Int)) = false := decide_eq_false (by omega)
    have hR2 := hR.out
    rw [List.drop_eq_nil_of_le (by rw [absL_len]; exact Nat.le_refl _)] at hR2
    have hR3 : res = out := by rw [hR2]; simp [ofL]
    clear hR hR2
    replace hR3 := Lib.hid hR3
    have ownb := own_below own (below_new wr (.cells #[.slice A1 out.length c1] 64)) (fun k hk => (own.lt k hk).2)
    have Bb := B.trans ((below_new wr (.cells #[.slice A1 out.length c1] 64)).mono B.size)
    have bb := Blk.new wr 64 #[.slice A1 out.length c1]
    go_wp2
    go_ret
    exact ⟨_, _, rfl, bb, B.size, by rw [hR3.out]; exact ownb, Bb⟩
  have dec : decide ((k : Int) < (l.length : Int)) = true := decide_eq_true (by omega)
  have dec' : decide (k < l.length) = true := decide_eq_true hlt
  obtain ⟨b, off, rfl, hbs, hc⟩ := evt_at (hr.rv.below B) hlt
  have hd := absL_dropO hlt
  generalize l[k] = x at *
  have hR1 : res = out ++ (if ofB nd wh x.abs then (k : Int) :: ofL nd wh (k + 1) ((absL l).drop (k + 1)) else ofL nd wh (k + 1) ((absL l).drop (k + 1))) := by rw [hR.out, hd, ofL]
  clear hd hR
  replace hR1 := Lib.hid hR1
  go_upto_region 4 with fail
  with_reducible refine wp_region_lit ?_
  with_reducible refine wpList_cutAt 2 ?_
  simp only [List.take_succ_cons, List.take_zero, List.drop_succ_cons, List.drop_zero]
  go_wp2_with fail
  with_reducible refine CutQ.go_ ?_
  with_reducible refine wpList_load_mid rfl 45 (.tmp 15) rfl b (off + k * 57) (by kernel_rfl) x.cells _ hc Tryz.underlying45 (by kernel_rfl) (by kernel_rfl) ?_
  go_frame
  with_reducible refine wpList_cutAt 2 ?_
  simp only [List.take_succ_cons, List.take_zero, List.drop_succ_cons, List.drop_zero]
  repeat (first | go_values | go_skip | go_guarded | go_step | go_upon)
  with_reducible refine CutQ.go_ ?_
  with_reducible refine wpList_abs (fun w' => Blk w' wr.heap.size 45 zEvtR.cells.toArray ∧ Below wr.heap.size wr w') ?_ ?_
  · exact ⟨Blk.new wr 45 zEvtR.cells.toArray, below_new wr (.cells zEvtR.cells.toArray 45)⟩
  rintro wA0 ⟨bE0, dE0⟩
  have bE' : wA0.heap[wr.heap.size]? = some (Obj.cells zEvtR.cells.toArray 45) := bE0
  with_reducible refine wpList_store_row rfl 45 (.tmp 9) (.tmp 16) rfl wr.heap.size x.cells.toArray (by kernel_rfl) (by kernel_rfl) 45 zEvtR.cells.toArray bE' (by kernel_rfl) (by kernel_rfl) (by kernel_rfl) (wpList_nil ?_)
  have bE := bE0.setRow_ x.cells.toArray
  have dE := below_setRow dE0 (Nat.le_refl _) x.cells.toArray
  revert bE dE
  generalize wA0.setRow wr.heap.size x.cells.toArray = wA
  clear bE' bE0 dE0 wA0
  intro bE dE
  simp only [Act.put]
  have BA := B.trans (dE.mono B.size)
  have ownA := own_below own dE (fun k hk => (own.lt k hk).2)
  have f0 : wA.cell? ⟨wr.heap.size, 0, none⟩ = some (.int .i64 x.kind) := bE.at_ rfl
  have f2 : wA.cell? ⟨wr.heap.size, 2, none⟩ = some (.int .i64 x.node) := bE.at_ rfl
  have f3 : wA.cell? ⟨wr.heap.size, 3, none⟩ = some (.int .i64 x.who) := bE.at_ rfl
  clear hc hbs dE B own bE
  cases hb : ofB nd wh x.abs
  · have hR2 := hR1.out
    rw [if_neg (by rw [hb]; decide)] at hR2
    replace hR2 := Lib.hid hR2
    clear hR1
    have W := ofB_ways hb
    change decide ((6 : Int) ≤ x.kind) = false ∨ (decide ((6 : Int) ≤ x.kind) = true ∧ decide (x.kind ≤ (10 : Int)) = false) ∨ (decide ((6 : Int) ≤ x.kind) = true ∧ decide (x.kind ≤ (10 : Int)) = true ∧ (x.node == nd) = false) ∨ (decide ((6 : Int) ≤ x.kind) = true ∧ decide (x.kind ≤ (10 : Int)) = true ∧ (x.node == nd) = true ∧ (x.who == wh) = false) at W
    clear hb
    rcases W with d1 | ⟨d1, d2⟩ | ⟨d1, d2, d3⟩ | ⟨d1, d2, d3, d4⟩
    all_goals
      go_wp2_with fail
      go_roundw
      case rel => exact ⟨k + 1, out, by omega, by go_num, hR2, ownA, by omega, BA⟩
      case measure => simp [intOf]; omega
  · have hR2 := hR1.out
    rw [if_pos hb] at hR2
    have hR3 : res = (out ++ [(k : Int)]) ++ ofL nd wh (k + 1) ((absL l).drop (k + 1)) := by rw [hR2]; simp
    replace hR3 := Lib.hid hR3
    clear hR1 hR2
    obtain ⟨d1, d2, d3, d4⟩ := ofB_yes hb
    change decide ((6 : Int) ≤ x.kind) = true at d1
    change decide (x.kind ≤ (10 : Int)) = true at d2
    change (x.node == nd) = true at d3
    change (x.who == wh) = true at d4
    clear hb
    go_upto_region 6 with fail
    have own1 := own_below ownA (below_new wA (.cells #[.int .i64 (k : Int)] 3)) (fun k hk => (ownA.lt k hk).2)
    have B1 := BA.trans ((below_new wA (.cells #[.int .i64 (k : Int)] 3)).mono BA.size)
    have rv1 : RV (wA.alloc (.cells #[.int .i64 (k : Int)] 3)) (some ⟨wA.heap.size, 0, none⟩) (iC (k : Int)) := RV.new wA (iC (k : Int)) 3 (0, 0)
    with_reducible refine wp_region_lit ?_
    with_reducible refine wpList_cutAt 3 ?_
    simp only [List.take_succ_cons, List.take_zero, List.drop_succ_cons, List.drop_zero]
    repeat (first | go_values | go_skip | go_guarded | go_step | go_upon)
    with_reducible refine CutQ.go_ ?_
    with_reducible refine wpList_append_rv el_int (by kernel_rfl) (.tmp 37) (.tmp 39) rfl w.heap.size (.slice A1 out.length c1) out.length (fl iC out) (by kernel_rfl) own1 (some ⟨wA.heap.size, 0, none⟩) 1 1 (iC (k : Int)) (by kernel_rfl) (by kernel_rfl) rv1 (iC_one _) ?f2 ?f3 ?f4 ?_
    case f2 => unfold maxLen; omega
    case f3 => omega
    case f4 => exact B1.size
    intro v6 w6 own6 gr6 _
    have B6 : Below w.heap.size w w6 := below_grownS B1 gr6 (fun k hk => (own1.lt k hk).1)
    have own7 : Ints w.heap.size w6 v6 (out ++ [(k : Int)]) := by
      show w6.ownsRow _ _ _ _ (out ++ [(k : Int)]).length (fl iC (out ++ [(k : Int)]))
      rw [List.length_append, List.length_singleton, fl_append, fl_one]
      exact own6
    clear gr6 own6 own1 rv1 B1 ownA BA f0 f2 f3 d1 d2 d3 d4
    go_wp2_with fail
    go_roundw
    case rel => exact ⟨k + 1, out ++ [(k : Int)], by omega, by go_num, hR3, own7, by rw [List.length_append, List.length_singleton]; omega, B6⟩
    case measure => simp [intOf]; omega
end Go.Proofs.YtiokbebodblhaaaGreatDoor
