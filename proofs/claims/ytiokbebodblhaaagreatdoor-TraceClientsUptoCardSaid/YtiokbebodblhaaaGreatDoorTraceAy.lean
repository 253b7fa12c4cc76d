/-
  Walk: the program's Answers.
-/
import Derived.Test.YtiokbebodblhaaaGreatDoorTraceAz
namespace Go.Proofs.YtiokbebodblhaaaGreatDoor
open Go.RowKit Go.Maps Go.WideMaps TraceP
attribute [local go_sem] Row.val

/-- What the program's loop holds. -/
structure AnsW (w wr : World) (mb k : Nat) (v : Value) (out : List (Int × Int)) (ask : Book) (F : Value → Option Int) : Prop where
  own : Prs w.heap.size wr v out
  map : MapO wr 121 mb k F
  book : BookF F ask
  low : ∀ a b j, ask a b = some j → j < out.length
  ne : ∀ g, v.ownBlock = some g → g ≠ mb
  bel : Below w.heap.size w wr
theorem AnsW.below {w wr w' : World} {mb k : Nat} {v : Value} {out : List (Int × Int)} {ask : Book} {F : Value → Option Int} (h : AnsW w wr mb k v out ask F) (d : Below wr.heap.size wr w') : AnsW w w' mb k v out ask F :=
  ⟨own_below h.own d (fun j hj => (h.own.lt j hj).2), h.map.of_block (d.block mb h.map.lt), h.book, h.low, h.ne, h.bel.trans (d.mono h.bel.size)⟩
theorem AnsW.kept {w wr w' : World} {mb k k' : Nat} {v : Value} {out : List (Int × Int)} {ask ask' : Book} {F F' : Value → Option Int} (h : AnsW w wr mb k v out ask F) (gN : wr.grownBy w' (some mb)) (hmb : w.heap.size ≤ mb) (m : MapO w' 121 mb k' F') (b : BookF F' ask') (lo : ∀ a b j, ask' a b = some j → j < out.length) : AnsW w w' mb k' v out ask' F' :=
  ⟨own_frame h.own (fun j hj => gN.block j (h.own.lt j hj).2 (fun q => h.ne j hj (Option.some.inj q))), m, b, lo, h.ne, below_grownS h.bel gN (fun j hj => by have := Option.some.inj hj; omega)⟩
theorem setB_low {ask : Book} {n m : Nat} {nd wh : Int} {v : Option Nat} (h : ∀ a b j, ask a b = some j → j < n) (hnm : n ≤ m) (hv : ∀ j, v = some j → j < m) : ∀ a b j, setB ask nd wh v a b = some j → j < m := fun a b j hj => by
  unfold setB at hj
  split at hj
  · exact hv j hj
  · exact Nat.lt_of_lt_of_le (h a b j hj) hnm
theorem dropB_low {ask : Book} {n : Nat} {nd : Int} (h : ∀ a b j, ask a b = some j → j < n) : ∀ a b j, dropB ask nd a b = some j → j < n := fun a b j hj => by
  unfold dropB at hj
  split at hj
  · cases hj
  · exact h a b j hj
theorem outS_no {out : List (Int × Int)} {ask : Book} {k : Nat} {e : Evt} (q : e.kind = 10) (h : ask e.node e.who = none) : outS out ask k e = out := by
  unfold outS
  rw [q, h]
  rfl
theorem outS_yes {out : List (Int × Int)} {ask : Book} {k j : Nat} {e : Evt} (q : e.kind = 10) (h : ask e.node e.who = some j) : outS out ask k e = setEnd out j (k : Int) := by
  unfold outS
  rw [q, h]
  rfl
set_option maxRecDepth 100000 in
set_option maxHeartbeats 6400000 in
theorem pans_calls (w : World) (A : Option Addr) (c : Nat) (l : List EvtR) (hr : EvsOK w A l c) (lm : l.length ≤ 100000) :
    Calls Tryz.prog 28 #[.slice A l.length c] w fun r w' => ∃ v, r = .returned v ∧ Prs w.heap.size w' v (ansR 0 (absL l)) ∧ Below w.heap.size w w' := by
  have lmax : l.length ≤ 9223372036854775807 := Nat.le_trans hr.le hr.cap
  have hmm := @run_makeMap Tryz.prog
  have m1 := MapO.made w 121
  have B1 : Below w.heap.size w (w.alloc (.map #[] 0)) := (Below.refl _ _).alloc (Nat.le_refl _) _
  obtain ⟨res, hres⟩ : ∃ x, x = ansR 0 (absL l) := ⟨_, rfl⟩
  rw [← hres]
  rw [← ans_both] at hres
  go_enter Tryz.func28, Tryz.ntmps28
  go_upto_region 3 with fail
  have S0 : AnsW w (w.alloc (.map #[] 0)) w.heap.size 0 (.slice none 0 0) [] (fun _ _ => none) (fun _ => none) := ⟨Prs.nil _ _, m1, fun _ _ => rfl, fun _ _ _ h => (by cases h), fun g h => (by cases h), B1⟩
  have hmb : w.heap.size ≤ w.heap.size := Nat.le_refl _
  revert S0 hmb
  clear m1 B1 hmm
  generalize hw1 : w.alloc (.map #[] 0) = w1
  clear hw1
  intro S0 hmb
  obtain ⟨mb, hmbe⟩ : ∃ b, b = w.heap.size := ⟨_, rfl⟩
  have S1 : AnsW w w1 mb 0 (.slice none 0 0) [] (fun _ _ => none) (fun _ => none) := by rw [hmbe]; exact S0
  have hmb1 : w.heap.size ≤ mb := by omega
  rw [← hmbe]
  clear S0 hmb hmbe
  go_wp2_with fail
  go_loopw [3, 13] (fun v i wr => ∃ (k : Nat) (out : List (Int × Int)) (ask : Book) (F : Value → Option Int), k ≤ l.length ∧ i = .int .i64 (k : Int) ∧ Hid (res = ansP out ask k ((absL l).drop k)) ∧ out.length ≤ k ∧ AnsW w wr mb k v out ask F) (fun _ i _ => l.length - (intOf i).toNat)
  case atStart => exact ⟨0, [], fun _ _ => none, fun _ => none, by omega, rfl, Lib.hid (by simpa using hres), Nat.le_refl _, S1⟩
  case round =>
  clear hres S1
  obtain ⟨k, out, ask, F, hk, rfl, hR, hol, S⟩ := hrel
  obtain ⟨A1, c1, hv, hnc, hcm⟩ := own_form S.own
  subst hv
  by_cases hlt : k < l.length
  case neg =>
    obtain rfl : k = l.length := by omega
    have dec : decide ((l.length : Int) < (l.length : Int)) = false := decide_eq_false (by omega)
    have hR2 := hR.out
    rw [List.drop_eq_nil_of_le (by rw [absL_len]; exact Nat.le_refl _)] at hR2
    have hR3 : res = out := hR2
    clear hR hR2
    replace hR3 := Lib.hid hR3
    go_wp2_with fail
    go_ret
    exact ⟨_, rfl, by rw [hR3.out]; exact S.own, S.bel⟩
  have dec : decide ((k : Int) < (l.length : Int)) = true := decide_eq_true (by omega)
  have dec' : decide (k < l.length) = true := decide_eq_true hlt
  obtain ⟨b, off, rfl, hbs, hc⟩ := evt_at (hr.rv.below S.bel) hlt
  have ox := hr.ok _ (List.getElem_mem hlt)
  have hd := absL_dropO hlt
  generalize l[k] = x at *
  obtain ⟨kl, hkl⟩ := key_place ox.node ox.who
  have hR1 : res = ansP (outS out ask k x.abs) (askS out ask x.abs) (k + 1) ((absL l).drop (k + 1)) := by rw [hR.out, hd, ansP]
  clear hd hR ox
  replace hR1 := Lib.hid hR1
  go_upto_region 5 with fail
  with_reducible refine wp_region_lit ?_
  with_reducible refine wpList_cutAt 2 ?_
  simp only [List.take_succ_cons, List.take_zero, List.drop_succ_cons, List.drop_zero]
  go_wp2_with fail
  with_reducible refine CutQ.go_ ?_
  with_reducible refine wpList_load_mid rfl 45 (.tmp 16) rfl b (off + k * 57) (by kernel_rfl) x.cells _ hc Tryz.underlying45 (by kernel_rfl) (by kernel_rfl) ?_
  go_frame
  with_reducible refine wpList_cutAt 2 ?_
  simp only [List.take_succ_cons, List.take_zero, List.drop_succ_cons, List.drop_zero]
  repeat (first | go_values | go_skip | go_guarded | go_step | go_upon)
  with_reducible refine CutQ.go_ ?_
  with_reducible refine wpList_abs (fun w' => Blk w' wr.heap.size 45 zEvtR.cells.toArray ∧ Below wr.heap.size wr w') ?_ ?_
  · exact ⟨Blk.new wr 45 zEvtR.cells.toArray, below_new wr (.cells zEvtR.cells.toArray 45)⟩
  rintro wA0 ⟨bE0, dE0⟩
  have bE' : wA0.heap[wr.heap.size]? = some (Obj.cells zEvtR.cells.toArray 45) := bE0
  with_reducible refine wpList_store_row rfl 45 (.tmp 6) (.tmp 17) rfl wr.heap.size x.cells.toArray (by kernel_rfl) (by kernel_rfl) 45 zEvtR.cells.toArray bE' (by kernel_rfl) (by kernel_rfl) (by kernel_rfl) (wpList_nil ?_)
  have bE := bE0.setRow_ x.cells.toArray
  have dE := below_setRow dE0 (Nat.le_refl _) x.cells.toArray
  revert bE dE
  generalize wA0.setRow wr.heap.size x.cells.toArray = wA
  clear bE' bE0 dE0 wA0
  intro bE dE
  simp only [Act.put]
  have SA := S.below dE
  have hmE : wr.heap.size ≠ mb := by have := S.map.lt; omega
  clear hc hbs dE S
  obtain ⟨gE, hgE⟩ : ∃ g, g = wr.heap.size := ⟨_, rfl⟩
  rw [← hgE] at bE hmE ⊢
  clear hgE
  have f2 := bE.at_ (i := 2) (v := .int .i64 x.node) rfl
  have f3 := bE.at_ (i := 3) (v := .int .i64 x.who) rfl
  go_upto_region 7 with fail
  clear f2 f3
  have bP := Blk.new wA 121 #[.int .i64 x.node, .int .i64 x.who]
  have dP := below_new wA (.cells #[.int .i64 x.node, .int .i64 x.who] 121)
  have hmP : wA.heap.size ≠ mb := by have := SA.map.lt; omega
  have hPO : ∀ j, (Value.slice A1 out.length c1).ownBlock = some j → j < wA.heap.size := fun j hj => (SA.own.lt j hj).2
  revert bP dP
  generalize wA.alloc (.cells #[.int .i64 x.node, .int .i64 x.who] 121) = w2
  intro bP dP
  have S2 := SA.below dP
  have bE2 := bE.below dP bE.lt
  obtain ⟨gP, hgP⟩ : ∃ g, g = wA.heap.size := ⟨_, rfl⟩
  rw [← hgP] at bP hmP hPO ⊢
  replace hPO := Lib.hid hPO
  clear hgP SA dP bE
  have p0 := bP.at_ (i := 0) (v := .int .i64 x.node) rfl
  have p1 := bP.at_ (i := 1) (v := .int .i64 x.who) rfl
  with_reducible refine wp_region_lit ?_
  with_reducible refine wpList_cutAt 2 ?_
  simp only [List.take_succ_cons, List.take_zero, List.drop_succ_cons, List.drop_zero]
  go_wp2_with fail
  with_reducible refine CutQ.go_ ?_
  with_reducible refine wpList_look_ok_O rfl (.tmp 24) (.tmp 25) 104 121 rfl placeKeyed Tryz.underlying104 mb k F (by kernel_rfl) S2.map (pv x.node x.who) kl (by kernel_rfl) hkl ?_
  obtain ⟨fo, hfo⟩ : ∃ o, F (pv x.node x.who) = o := ⟨_, rfl⟩
  rw [hfo]
  have hbk := S2.book x.node x.who
  rw [hfo] at hbk
  obtain ⟨oa, hoa⟩ : ∃ o, o = ask x.node x.who := ⟨_, rfl⟩
  rw [← hoa] at hbk
  have hlo : ∀ j, oa = some j → j < out.length := fun j hj => S2.low x.node x.who j (hoa ▸ hj)
  replace hoa := Lib.hid hoa
  obtain ⟨vj, hvj⟩ : ∃ q, q = fo.getD 0 := ⟨_, rfl⟩
  obtain ⟨vb, hvb⟩ : ∃ q, q = fo.isSome := ⟨_, rfl⟩
  rw [← hvj, ← hvb]
  rw [hbk] at hvj hvb
  clear hfo hbk fo
  go_frame
  replace hvj := Lib.hid hvj
  replace hvb := Lib.hid hvb
  replace hlo := Lib.hid hlo
  have c0 := bE2.at_ (i := 0) (v := .int .i64 x.kind) rfl
  go_upto_region 9 with fail
  clear c0
  have kI : I64 (out.length : Int) := ⟨by omega, by omega⟩
  by_cases k6 : x.kind = 6
  · have q6 : (x.kind == 6) = true := beq_iff_eq.2 k6
    have hN : outS out ask k x.abs = out ++ [((k : Int), -1)] ∧ askS out ask x.abs = setB ask x.node x.who (some out.length) := by
      have q : x.abs.kind = 6 := k6
      unfold outS askS
      rw [if_pos q, if_pos q]
      exact ⟨rfl, rfl⟩
    have hR2 := hR1.out
    rw [hN.1, hN.2] at hR2
    replace hR2 := Lib.hid hR2
    clear hR1 hN k6
    go_upto_region 10 with fail
    with_reducible refine wp_region_lit ?_
    with_reducible refine wpList_cutAt 4 ?_
    simp only [List.take_succ_cons, List.take_zero, List.drop_succ_cons, List.drop_zero]
    go_wp2_with fail
    with_reducible refine CutQ.go_ ?_
    with_reducible refine wpList_store_O rfl (.tmp 33) (.tmp 34) (.tmp 36) 104 121 rfl placeKeyed Tryz.underlying104 mb k F (by kernel_rfl) S2.map (by omega) (pv x.node x.who) (out.length : Int) kl (by kernel_rfl) (by kernel_rfl) hkl kI ?_
    intro w4 mN gN
    have S4 : AnsW w w4 mb (k + 1) (.slice A1 out.length c1) out ask F → True := fun _ => trivial
    have own4 := own_frame S2.own (fun j hj => gN.block j (S2.own.lt j hj).2 (fun q => S2.ne j hj (Option.some.inj q)))
    have B4 : Below w.heap.size w w4 := below_grownS S2.bel gN (fun j hj => by have := Option.some.inj hj; omega)
    have ne4 := S2.ne
    have bk4 : BookF (setV F (pv x.node x.who) (some (out.length : Int))) (setB ask x.node x.who (some out.length)) := S2.book.set x.node x.who (some out.length)
    have lo4 : ∀ a b j, setB ask x.node x.who (some out.length) a b = some j → j < out.length + 1 := setB_low S2.low (Nat.le_succ _) (fun j hj => by have := Option.some.inj hj; omega)
    clear S4 gN S2 bE2 bP p0 p1 q6
    go_upto_region 11 with fail
    have dn := below_new w4 (.cells #[.int .i64 (k : Int), .int .i64 (-1)] 72)
    have own1 := own_below own4 dn (fun k hk => (own4.lt k hk).2)
    have B1 := B4.trans (dn.mono B4.size)
    have mN1 := mN.alloc (.cells #[.int .i64 (k : Int), .int .i64 (-1)] 72)
    have hmlt := mN.lt
    have rv1 : RV (w4.alloc (.cells #[.int .i64 (k : Int), .int .i64 (-1)] 72)) (some ⟨w4.heap.size, 0, none⟩) (pC ((k : Int), -1)) := RV.new w4 (pC ((k : Int), -1)) 72 (0, 0)
    have hsz : w4.heap.size ≤ (w4.alloc (.cells #[.int .i64 (k : Int), .int .i64 (-1)] 72)).heap.size := by simp
    with_reducible refine wp_region_lit ?_
    with_reducible refine wpList_cutAt 4 ?_
    simp only [List.take_succ_cons, List.take_zero, List.drop_succ_cons, List.drop_zero]
    go_wp2_with fail
    with_reducible refine CutQ.go_ ?_
    with_reducible refine wpList_append_rv el_pair (by kernel_rfl) (.tmp 37) (.tmp 40) rfl w.heap.size (.slice A1 out.length c1) out.length (fl pC out) (by kernel_rfl) own1 (some ⟨w4.heap.size, 0, none⟩) 1 1 (pC ((k : Int), -1)) (by kernel_rfl) (by kernel_rfl) rv1 (pC_one _) ?f2 ?f3 ?f4 ?_
    case f2 => unfold maxLen; omega
    case f3 => omega
    case f4 => exact B1.size
    intro v6 w6 own6 gr6 hv6
    have B6 : Below w.heap.size w w6 := below_grownS B1 gr6 (fun k hk => (own1.lt k hk).1)
    have m6 := mN1.kept gr6 (fun q => ne4 mb q.symm rfl)
    have ne6 : ∀ g, v6.ownBlock = some g → g ≠ mb := fun g hg => by
      rcases hv6 with h | h
      · exact ne4 g (h.symm.trans hg)
      · rw [h] at hg
        injection hg with hg
        omega
    have hl6 : (out ++ [((k : Int), (-1 : Int))]).length = out.length + 1 := by rw [List.length_append]; rfl
    have own7 : Prs w.heap.size w6 v6 (out ++ [((k : Int), -1)]) := by
      show w6.ownsRow _ _ _ _ (out ++ [((k : Int), -1)]).length (fl pC (out ++ [((k : Int), -1)]))
      rw [hl6, fl_append, fl_one]
      exact own6
    have S6 : AnsW w w6 mb (k + 1) v6 (out ++ [((k : Int), -1)]) (setB ask x.node x.who (some out.length)) (setV F (pv x.node x.who) (some (out.length : Int))) := ⟨own7, m6, bk4, by rw [hl6]; exact lo4, ne6, B6⟩
    clear own7 m6 bk4 lo4 ne6 B6 gr6 own6 own1 rv1 B1 mN1 mN dn own4 B4 ne4 hv6 hsz
    go_wp2_with fail
    go_roundw
    case rel => exact ⟨k + 1, out ++ [((k : Int), -1)], _, _, by omega, by go_num, hR2, by rw [hl6]; omega, S6⟩
    case measure => simp [intOf]; omega
  have q6 : (x.kind == 6) = false := beq_eq_false_iff_ne.2 k6
  have hbk0 : BookF (setV F (pv x.node x.who) none) (setB ask x.node x.who none) := S2.book.set x.node x.who none
  have hlo0 : ∀ m, out.length ≤ m → ∀ a b j, setB ask x.node x.who none a b = some j → j < m := fun m hm => setB_low S2.low hm (fun j hj => by cases hj)
  by_cases k10 : x.kind = 10
  · have q10 : (x.kind == 10) = true := beq_iff_eq.2 k10
    have hA : askS out ask x.abs = setB ask x.node x.who none := by
      have q : x.abs.kind = 10 := k10
      unfold askS
      rw [q]
      rfl
    have hR2 := hR1.out
    rw [hA] at hR2
    clear hR1 hA
    cases oa with
    | none =>
      have hvb2 : vb = false := hvb.out
      subst hvb2
      have hO : outS out ask k x.abs = out := outS_no k10 hoa.out.symm
      rw [hO] at hR2
      replace hR2 := Lib.hid hR2
      clear hvb hvj hlo hoa hO k6 k10
      go_upto_region 15 with fail
      with_reducible refine wp_region_lit ?_
      with_reducible refine wpList_cutAt 2 ?_
      simp only [List.take_succ_cons, List.take_zero, List.drop_succ_cons, List.drop_zero]
      go_wp2_with fail
      with_reducible refine CutQ.go_ ?_
      with_reducible refine wpList_delete_O rfl (.tmp 50) (.tmp 51) 104 121 rfl placeKeyed Tryz.underlying104 mb k F (by kernel_rfl) S2.map (pv x.node x.who) kl (by kernel_rfl) hkl ?_
      intro w4 mN gN
      have S4 := S2.kept gN hmb1 (mN.mono (Nat.le_succ k)) hbk0 (hlo0 _ (Nat.le_refl _))
      clear S2 mN gN hbk0 hlo0 bE2 bP p0 p1 q6 q10
      go_wp2_with fail
      go_roundw
      case rel => exact ⟨k + 1, out, _, _, by omega, by go_num, hR2, by omega, S4⟩
      case measure => simp [intOf]; omega
    | some j =>
      have hvb2 : vb = true := hvb.out
      have hvj2 : vj = (j : Int) := hvj.out
      subst hvb2 hvj2
      have hO : outS out ask k x.abs = setEnd out j (k : Int) := outS_yes k10 hoa.out.symm
      rw [hO] at hR2
      replace hR2 := Lib.hid hR2
      have hjl : j < out.length := hlo.out j rfl
      clear hvb hvj hlo hoa hO k6 k10
      obtain ⟨g, cap, hv, hBg, hgl, hfz, ⟨u, hcu⟩, ownS⟩ := S2.own.set hjl (k : Int)
      cases hv
      have hgm : g ≠ mb := S2.ne g rfl
      have hle : (setEnd out j (k : Int)).length = out.length := by unfold setEnd; simp
      have SS : AnsW w (w2.setCell ⟨g, j * 2 + 1, none⟩ (.int .i64 (k : Int))) mb k (.slice (some ⟨g, 0, none⟩) (setEnd out j (k : Int)).length c1) (setEnd out j (k : Int)) ask F :=
        ⟨by rw [hle]; exact ownS, S2.map.setCell (Ne.symm hgm) _, S2.book, by rw [hle]; exact S2.low, fun g' h => by injection h with h; rw [← h]; exact hgm, S2.bel.setCell hBg _⟩
      rw [hle] at SS
      have decj : decide ((j : Int) < (out.length : Int)) = true := decide_eq_true (by omega)
      have decj' : decide (j < out.length) = true := decide_eq_true hjl
      have hsz2 : (w2.setCell ⟨g, j * 2 + 1, none⟩ (.int .i64 (k : Int))).heap.size = w2.heap.size := by simp [World.setCell]
      have bP4 : Blk (w2.setCell ⟨g, j * 2 + 1, none⟩ (.int .i64 (k : Int))) gP 121 #[.int .i64 x.node, .int .i64 x.who] := bP.far (p := ⟨g, j * 2 + 1, none⟩) (by have := hPO.out g rfl; show gP ≠ g; omega) _
      go_upto_region 15 with fail
      have hlo2 := hlo0 out.length (Nat.le_refl _)
      clear S2 hcu hfz ownS hlo0 p0 p1 bP bE2 hsz2 decj decj' u
      revert SS bP4
      generalize w2.setCell ⟨g, j * 2 + 1, none⟩ (.int .i64 (k : Int)) = w3
      intro SS bP4
      have p0 := bP4.at_ (i := 0) (v := .int .i64 x.node) rfl
      have p1 := bP4.at_ (i := 1) (v := .int .i64 x.who) rfl
      with_reducible refine wp_region_lit ?_
      with_reducible refine wpList_cutAt 2 ?_
      simp only [List.take_succ_cons, List.take_zero, List.drop_succ_cons, List.drop_zero]
      go_wp2_with fail
      with_reducible refine CutQ.go_ ?_
      with_reducible refine wpList_delete_O rfl (.tmp 50) (.tmp 51) 104 121 rfl placeKeyed Tryz.underlying104 mb k F (by kernel_rfl) SS.map (pv x.node x.who) kl (by kernel_rfl) hkl ?_
      intro w4 mN gN
      have S4 := SS.kept gN hmb1 (mN.mono (Nat.le_succ k)) hbk0 (by rw [hle]; exact hlo2)
      clear SS mN gN hbk0 hlo2 bP4 p0 p1 q6 q10
      go_wp2_with fail
      go_roundw
      case rel => exact ⟨k + 1, setEnd out j (k : Int), _, _, by omega, by go_num, hR2, by rw [hle]; omega, S4⟩
      case measure => simp [intOf]; omega
  have q10 : (x.kind == 10) = false := beq_eq_false_iff_ne.2 k10
  by_cases k7 : x.kind = 7
  · have q7 : (x.kind == 7) = true := beq_iff_eq.2 k7
    have hN : outS out ask k x.abs = out ∧ askS out ask x.abs = setB ask x.node x.who none := by
      have q : x.abs.kind = 7 := k7
      unfold outS askS
      rw [q]
      exact ⟨rfl, rfl⟩
    have hR2 := hR1.out
    rw [hN.1, hN.2] at hR2
    replace hR2 := Lib.hid hR2
    clear hR1 hN k6 k10 k7
    go_upto_region 17 with fail
    with_reducible refine wp_region_lit ?_
    with_reducible refine wpList_cutAt 2 ?_
    simp only [List.take_succ_cons, List.take_zero, List.drop_succ_cons, List.drop_zero]
    go_wp2_with fail
    with_reducible refine CutQ.go_ ?_
    with_reducible refine wpList_delete_O rfl (.tmp 54) (.tmp 55) 104 121 rfl placeKeyed Tryz.underlying104 mb k F (by kernel_rfl) S2.map (pv x.node x.who) kl (by kernel_rfl) hkl ?_
    intro w4 mN gN
    have S4 := S2.kept gN hmb1 (mN.mono (Nat.le_succ k)) hbk0 (hlo0 _ (Nat.le_refl _))
    clear S2 mN gN hbk0 hlo0 bE2 bP p0 p1 q6 q7 q10
    go_wp2_with fail
    go_roundw
    case rel => exact ⟨k + 1, out, _, _, by omega, by go_num, hR2, by omega, S4⟩
    case measure => simp [intOf]; omega
  have q7 : (x.kind == 7) = false := beq_eq_false_iff_ne.2 k7
  clear hbk0 hlo0
  by_cases k16 : x.kind = 16
  · have q16 : (x.kind == 16) = true := beq_iff_eq.2 k16
    have hN : outS out ask k x.abs = out ∧ askS out ask x.abs = dropB ask x.node := by
      have q : x.abs.kind = 16 := k16
      unfold outS askS
      rw [q]
      exact ⟨rfl, rfl⟩
    have hR2 := hR1.out
    rw [hN.1, hN.2] at hR2
    replace hR2 := Lib.hid hR2
    clear hR1 hN k6 k10 k7 k16
    have c2 := bE2.at_ (i := 2) (v := .int .i64 x.node) rfl
    have DC := drop_calls w2 mb k F x.node S2.map
    go_wp2_with (go_at_call 58; refine DC.mono ?_; rintro _ w4 ⟨rfl, mN, gN⟩; clear DC)
    have S4 := S2.kept gN hmb1 (mN.mono (Nat.le_succ k)) (S2.book.drop x.node) (dropB_low S2.low)
    go_roundw
    case rel => exact ⟨k + 1, out, _, _, by omega, by go_num, hR2, by omega, S4⟩
    case measure => simp [intOf]; omega
  have q16 : (x.kind == 16) = false := beq_eq_false_iff_ne.2 k16
  have hN : outS out ask k x.abs = out ∧ askS out ask x.abs = ask := by
    have e6 : ¬ x.abs.kind = 6 := k6
    have e10 : ¬ x.abs.kind = 10 := k10
    have e7 : ¬ (x.abs.kind = 10 ∨ x.abs.kind = 7) := fun q => q.elim k10 k7
    have e16 : ¬ x.abs.kind = 16 := k16
    unfold outS askS
    rw [if_neg e6, if_neg e6, if_neg e10, if_neg e7, if_neg e16]
    exact ⟨rfl, rfl⟩
  have hR2 := hR1.out
  rw [hN.1, hN.2] at hR2
  replace hR2 := Lib.hid hR2
  have S4 : AnsW w w2 mb (k + 1) (.slice A1 out.length c1) out ask F := ⟨S2.own, S2.map.mono (Nat.le_succ k), S2.book, S2.low, S2.ne, S2.bel⟩
  clear hR1 hN k6 k10 k7 k16 S2 bE2 bP p0 p1
  go_wp2_with fail
  go_roundw
  case rel => exact ⟨k + 1, out, _, _, by omega, by go_num, hR2, by omega, S4⟩
  case measure => simp [intOf]; omega
end Go.Proofs.YtiokbebodblhaaaGreatDoor
