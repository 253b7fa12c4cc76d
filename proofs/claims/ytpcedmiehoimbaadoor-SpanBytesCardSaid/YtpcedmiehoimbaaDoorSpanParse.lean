/-
  The program's Parse of a span's text.
-/
import Derived.Test.YtpcedmiehoimbaaDoorSpanStd
import Derived.Lib.AtoiErrMem
namespace Go.Proofs.YtpcedmiehoimbaaDoor
open Go.RowKit SpanP

theorem cut_calls (l f t : List UInt8) (ok : Bool) (h : Lib.cut l [45] = (f, t, ok)) (hl : l.length ≤ 1000) (w : World) (hS : Std w) :
    Calls Tryd.prog 40 #[.string (bstr l), .string ⟨#[45]⟩] w fun e w' => e = .returned (.tuple #[.string (bstr f), .string (bstr t), .bool ok]) ∧ Gr w w' := by
  obtain ⟨m, hm⟩ := hS.2.2.2
  refine (Tryd.strings_Cut (bstr l) ⟨#[45]⟩ m w (by rw [bstr_size]; omega) hm).mono ?_
  rintro e w' ⟨rfl, n, rfl⟩
  refine ⟨?_, Gr.drewN (Gr.refl w) n⟩
  have e1 : (bstr l).data.toList = l := by simp [bstr]
  rw [e1, show (⟨#[45]⟩ : ByteArray).data.toList = [45] from rfl, h]
  rfl
theorem pint_ok (l : List UInt8) (v : Int) (h : Lib.parseIntB 64 l = .ok v) (hl : l.length ≤ 1000) (w : World) :
    Calls Tryd.prog 41 #[.string (bstr l), .int .i64 10, .int .i64 64] w fun e w' => e = .returned (.tuple #[.int .i64 v, .nilIface]) ∧ Gr w w' := by
  have e1 : (bstr l).data.toList = l := by simp [bstr]
  refine (Tryd.strconv_ParseInt_10_at64_ok (bstr l) (by rw [bstr_size]; omega) v (by rw [e1]; exact h) w).mono ?_
  rintro e w' ⟨rfl, rfl | ⟨t, rfl⟩⟩
  · exact ⟨rfl, Gr.refl _⟩
  · exact ⟨rfl, Lib.bytesWorld_below _ _ _⟩
theorem pint_no (l : List UInt8) (h : ∀ v, Lib.parseIntB 64 l ≠ .ok v) (hl : l.length ≤ 1000) (w : World) (hS : Std w) :
    Calls Tryd.prog 41 #[.string (bstr l), .int .i64 10, .int .i64 64] w fun e w' => ∃ v N, e = .returned (.tuple #[.int .i64 v, .iface 67 (.pointer (some ⟨N, 0, none⟩))]) ∧ Gr w w' := by
  have e1 : (bstr l).data.toList = l := by simp [bstr]
  obtain ⟨_, ⟨t1, p1, b⟩, ⟨t2, p2, c⟩, _⟩ := hS
  rcases hp : Lib.parseIntB 64 l with v | _ | _
  · exact absurd hp (h v)
  · refine (Any.strconv_ParseInt_10_at64_syntax_var Tryd.laysC174 (bstr l) (by rw [bstr_size]; omega) (by rw [e1]; exact hp) t1 p1 w b).mono ?_
    rintro e w' ⟨N, rfl, _, _, g⟩
    exact ⟨_, N, rfl, g⟩
  · refine (Tryd.strconv_ParseInt_10_at64_range_var (bstr l) (by rw [bstr_size]; omega) (by rw [e1]; exact hp) t2 p2 w c).mono ?_
    rintro e w' ⟨N, rfl, _, _, g⟩
    exact ⟨_, N, rfl, g⟩
/-- The span of a text: its number, if it has one. -/
def pnum (l : List UInt8) : Option Int := match Lib.parseIntB 64 l with
  | .ok v => some v
  | _ => none
def pspan (l : List UInt8) : Option (Int × Int) :=
  if (Lib.cut l [45]).2.2 then (pnum (Lib.cut l [45]).1).bind fun x =>
    (if (Lib.cut l [45]).2.1 = [] then some 4611686018427387904 else pnum (Lib.cut l [45]).2.1).bind fun y => if textL x y = l then some (x, y) else none
  else none
def parF (l : List UInt8) : Int := ((pspan l).map (·.1)).getD 0
def parT (l : List UInt8) : Int := ((pspan l).map (·.2)).getD 0
def parE (l : List UInt8) : Int := if (pspan l).isSome then 0 else 2
def RetPar (l : List UInt8) (w : World) (e : Ending) (w' : World) : Prop := e = .returned (.tuple #[.agg #[.int .i64 (parF l), .int .i64 (parT l)], .int .i64 (parE l)]) ∧ Gr w w'
theorem retPar_no {l : List UInt8} (h : pspan l = none) {w w' : World} (g : Gr w w') : RetPar l w (.returned (.tuple #[.agg #[.int .i64 0, .int .i64 0], .int .i64 2])) w' := by
  refine ⟨?_, g⟩
  simp [parF, parT, parE, h]
theorem par_noCut (l f t : List UInt8) (h : Lib.cut l [45] = (f, t, false)) (hl : l.length ≤ 1000) (w : World) (hS : Std w) : Calls Tryd.prog 32 #[.string (bstr l)] w (RetPar l w) := by
  have hn : Hid (pspan l = none) := by show pspan l = none; unfold pspan; rw [h]; rfl
  replace h : Hid _ := h
  try replace hx : Hid _ := hx
  try replace hy : Hid _ := hy
  try replace hp : Hid _ := hp
  have g0 : Gr w (w.alloc (.cells #[.int .i64 0, .int .i64 0] 23)) := (Gr.refl w).alloc _
  have s0 := hS.gr g0
  have c0 : Blk (w.alloc (.cells #[.int .i64 0, .int .i64 0] 23)) w.heap.size _ _ := Blk.new w 23 #[.int .i64 0, .int .i64 0]
  go_enter Tryd.func32, Tryd.ntmps32
  go_wp2_with (go_at_call 40; refine (cut_calls l f t false h.out hl _ s0).mono ?_; rintro e w1 ⟨rfl, g1⟩; have R1 := c0.below g1 c0.lt; have G1 := g0.trans g1; have S1 := s0.gr g1; have cp10 := R1.at_ (i := 0) (v := .int .i64 0) rfl; have fp10 := R1.frozen 0; have cp11 := R1.at_ (i := 1) (v := .int .i64 0) rfl; have fp11 := R1.frozen 1)
  all_goals refine bodyPost_ret (v := _) (by simp [results, Tryd.results32, go_sem, *]; rfl) rfl ?_
  all_goals exact retPar_no hn.out (by repeat (first | exact G1.trans G1 | exact G1 | refine Gr.set_ ?_ (by simp <;> omega) _))
set_option maxHeartbeats 1600000 in
theorem par_noFrom (l f t : List UInt8) (h : Lib.cut l [45] = (f, t, true)) (hf : f.length ≤ 1000) (hp : ∀ v, Lib.parseIntB 64 f ≠ .ok v) (hl : l.length ≤ 1000) (w : World) (hS : Std w) : Calls Tryd.prog 32 #[.string (bstr l)] w (RetPar l w) := by
  have hn : Hid (pspan l = none) := by
    show pspan l = none
    unfold pspan pnum; rw [h]
    cases hq : Lib.parseIntB 64 f with
    | ok v => exact absurd hq (hp v)
    | _ => simp [hq]
  replace h : Hid _ := h
  try replace hx : Hid _ := hx
  try replace hy : Hid _ := hy
  try replace hp : Hid _ := hp
  have g0 : Gr w (w.alloc (.cells #[.int .i64 0, .int .i64 0] 23)) := (Gr.refl w).alloc _
  have s0 := hS.gr g0
  have c0 : Blk (w.alloc (.cells #[.int .i64 0, .int .i64 0] 23)) w.heap.size _ _ := Blk.new w 23 #[.int .i64 0, .int .i64 0]
  go_enter Tryd.func32, Tryd.ntmps32
  go_wp2_with (first | (go_at_call 40; refine (cut_calls l f t true h.out hl _ s0).mono ?_; rintro e w1 ⟨rfl, g1⟩; have R1 := c0.below g1 c0.lt; have G1 := g0.trans g1; have S1 := s0.gr g1; have cp10 := R1.at_ (i := 0) (v := .int .i64 0) rfl; have fp10 := R1.frozen 0; have cp11 := R1.at_ (i := 1) (v := .int .i64 0) rfl; have fp11 := R1.frozen 1; have gx : Gr w1 (w1.alloc (.cells #[.int .i64 0, .int .i64 4611686018427387904] 23)) := (Gr.refl w1).alloc _; have s1 := S1.gr gx; have X1 := Blk.new w1 23 #[.int .i64 0, .int .i64 4611686018427387904]; have R2 := R1.below gx R1.lt; have hne : w.heap.size ≠ w1.heap.size := Nat.ne_of_lt R1.lt; have hne' : w1.heap.size ≠ w.heap.size := Ne.symm hne; have hlt : w.heap.size < w1.heap.size := R1.lt) | (go_at_call 41; refine (pint_no f hp.out hf _ s1).mono ?_; rintro e w2 ⟨vv, NN, rfl, g2⟩; have G2 := (gx.trans g2); have X2 := X1.below g2 X1.lt; have R3 := R2.below g2 R2.lt; have cq00 := X2.at_ (i := 0) (v := .int .i64 0) rfl; have fq00 := X2.frozen 0; have cq01 := X2.at_ (i := 1) (v := .int .i64 4611686018427387904) rfl; have fq01 := X2.frozen 1; have cq10 := R3.at_ (i := 0) (v := .int .i64 0) rfl; have fq10 := R3.frozen 0; have cq11 := R3.at_ (i := 1) (v := .int .i64 0) rfl; have fq11 := R3.frozen 1))
  all_goals refine bodyPost_ret (v := _) (by simp [results, Tryd.results32, go_sem, *]; rfl) rfl ?_
  all_goals exact retPar_no hn.out (by repeat (first | exact G1.trans G2 | exact G2 | refine Gr.set_ ?_ (by simp <;> omega) _))
theorem bstr_nil : bstr [] = ⟨#[]⟩ := rfl
theorem bstr_cons (c : UInt8) (t : List UInt8) : (bstr (c :: t) = ⟨#[]⟩) = False := by
  rw [eq_iff_iff, iff_false]
  intro h
  exact absurd (bstr_inj (b := []) h) (by simp)
theorem bstr_eq (a b : List UInt8) : (bstr a = bstr b) = (a = b) := propext ⟨bstr_inj, congrArg bstr⟩
theorem bstr_list (t : List UInt8) : (bstr t).toList = t := by
  rw [ByteArray.toList_eq]; rfl
theorem retPar_yes {l : List UInt8} {x y : Int} (h : pspan l = some (x, y)) {w w' : World} (g : Gr w w') : RetPar l w (.returned (.tuple #[.agg #[.int .i64 x, .int .i64 y], .int .i64 0])) w' := by
  refine ⟨?_, g⟩
  simp [parF, parT, parE, h]
set_option maxHeartbeats 1600000 in
theorem par_openYes (l f t : List UInt8) (x : Int) (h : Lib.cut l [45] = (f, t, true)) (ht : t = []) (hf : f.length ≤ 1000) (hx : Lib.parseIntB 64 f = .ok x) (he : textL x 4611686018427387904 = l) (hl : l.length ≤ 1000) (w : World) (hS : Std w) : Calls Tryd.prog 32 #[.string (bstr l)] w (RetPar l w) := by
  have hn : Hid (pspan l = some (x, 4611686018427387904)) := by
    show pspan l = some (x, 4611686018427387904)
    unfold pspan pnum; rw [h]
    simp [hx, he, ht]
  have htt : (bstr t).toList.isEmpty = true := by rw [ht, bstr_list]; rfl
  clear ht
  have hee : ((bstr (textL x 4611686018427387904)).toList == (bstr l).toList) = decide (textL x 4611686018427387904 = l) := by rw [bstr_list, bstr_list, Bool.eq_iff_iff]; simp
  rw [decide_eq_true he] at hee
  clear he
  replace h : Hid _ := h
  try replace hx : Hid _ := hx
  try replace hy : Hid _ := hy
  try replace hp : Hid _ := hp
  have g0 : Gr w (w.alloc (.cells #[.int .i64 0, .int .i64 0] 23)) := (Gr.refl w).alloc _
  have s0 := hS.gr g0
  have c0 : Blk (w.alloc (.cells #[.int .i64 0, .int .i64 0] 23)) w.heap.size _ _ := Blk.new w 23 #[.int .i64 0, .int .i64 0]
  go_enter Tryd.func32, Tryd.ntmps32
  go_wp2_with (first | (go_at_call 40; refine (cut_calls l f t true h.out hl _ s0).mono ?_; rintro e w1 ⟨rfl, g1⟩; have R1 := c0.below g1 c0.lt; have G1 := g0.trans g1; have S1 := s0.gr g1; have cp10 := R1.at_ (i := 0) (v := .int .i64 0) rfl; have fp10 := R1.frozen 0; have cp11 := R1.at_ (i := 1) (v := .int .i64 0) rfl; have fp11 := R1.frozen 1; have gx : Gr w1 (w1.alloc (.cells #[.int .i64 0, .int .i64 4611686018427387904] 23)) := (Gr.refl w1).alloc _; have s1 := S1.gr gx; have X1 := Blk.new w1 23 #[.int .i64 0, .int .i64 4611686018427387904]; have R2 := R1.below gx R1.lt; have hne : w.heap.size ≠ w1.heap.size := Nat.ne_of_lt R1.lt; have hne' : w1.heap.size ≠ w.heap.size := Ne.symm hne; have hlt : w.heap.size < w1.heap.size := R1.lt) | (go_at_call 41; refine (pint_ok f x hx.out hf _).mono ?_; rintro e w2 ⟨rfl, g2⟩; have X2 := X1.below g2 X1.lt; have R3 := R2.below g2 R2.lt; have G2 : Gr w1 (w2.setCell ⟨w1.heap.size, 0, none⟩ (.int .i64 x)) := (gx.trans g2).set_ (Nat.le_refl _) _; have S2 := S1.gr G2; have X3 := X2.set_ 0 (.int .i64 x); have R4 := R3.far (p := ⟨w1.heap.size, 0, none⟩) hne (.int .i64 x); have cq00 := X2.at_ (i := 0) (v := .int .i64 0) rfl; have fq00 := X2.frozen 0; have cq01 := X2.at_ (i := 1) (v := .int .i64 4611686018427387904) rfl; have fq01 := X2.frozen 1) | (go_at_call 30; refine (stext_calls x 4611686018427387904 _ S2).mono ?_; rintro e w4 ⟨rfl, g4⟩; have G4 := G2.trans g4; have X7 := X3.below g4 X3.lt; have R7 := R4.below g4 R4.lt; have cs00 := X7.at_ (i := 0) (v := .int .i64 (x)) rfl; have fs00 := X7.frozen 0; have cs01 := X7.at_ (i := 1) (v := .int .i64 4611686018427387904) rfl; have fs01 := X7.frozen 1; have cs10 := R7.at_ (i := 0) (v := .int .i64 0) rfl; have fs10 := R7.frozen 0; have cs11 := R7.at_ (i := 1) (v := .int .i64 0) rfl; have fs11 := R7.frozen 1))
  all_goals refine bodyPost_ret (v := _) (by simp [results, Tryd.results32, go_sem, *]; rfl) rfl ?_
  all_goals exact retPar_yes hn.out (by repeat (first | exact G1.trans G4 | exact G4 | refine Gr.set_ ?_ (by simp <;> omega) _))
set_option maxHeartbeats 1600000 in
theorem par_openNo (l f t : List UInt8) (x : Int) (h : Lib.cut l [45] = (f, t, true)) (ht : t = []) (hf : f.length ≤ 1000) (hx : Lib.parseIntB 64 f = .ok x) (he : textL x 4611686018427387904 ≠ l) (hl : l.length ≤ 1000) (w : World) (hS : Std w) : Calls Tryd.prog 32 #[.string (bstr l)] w (RetPar l w) := by
  have hn : Hid (pspan l = none) := by
    show pspan l = none
    unfold pspan pnum; rw [h]
    simp [hx, he, ht]
  have htt : (bstr t).toList.isEmpty = true := by rw [ht, bstr_list]; rfl
  clear ht
  have hee : ((bstr (textL x 4611686018427387904)).toList == (bstr l).toList) = decide (textL x 4611686018427387904 = l) := by rw [bstr_list, bstr_list, Bool.eq_iff_iff]; simp
  rw [decide_eq_false he] at hee
  clear he
  replace h : Hid _ := h
  try replace hx : Hid _ := hx
  try replace hy : Hid _ := hy
  try replace hp : Hid _ := hp
  have g0 : Gr w (w.alloc (.cells #[.int .i64 0, .int .i64 0] 23)) := (Gr.refl w).alloc _
  have s0 := hS.gr g0
  have c0 : Blk (w.alloc (.cells #[.int .i64 0, .int .i64 0] 23)) w.heap.size _ _ := Blk.new w 23 #[.int .i64 0, .int .i64 0]
  go_enter Tryd.func32, Tryd.ntmps32
  go_wp2_with (first | (go_at_call 40; refine (cut_calls l f t true h.out hl _ s0).mono ?_; rintro e w1 ⟨rfl, g1⟩; have R1 := c0.below g1 c0.lt; have G1 := g0.trans g1; have S1 := s0.gr g1; have cp10 := R1.at_ (i := 0) (v := .int .i64 0) rfl; have fp10 := R1.frozen 0; have cp11 := R1.at_ (i := 1) (v := .int .i64 0) rfl; have fp11 := R1.frozen 1; have gx : Gr w1 (w1.alloc (.cells #[.int .i64 0, .int .i64 4611686018427387904] 23)) := (Gr.refl w1).alloc _; have s1 := S1.gr gx; have X1 := Blk.new w1 23 #[.int .i64 0, .int .i64 4611686018427387904]; have R2 := R1.below gx R1.lt; have hne : w.heap.size ≠ w1.heap.size := Nat.ne_of_lt R1.lt; have hne' : w1.heap.size ≠ w.heap.size := Ne.symm hne; have hlt : w.heap.size < w1.heap.size := R1.lt) | (go_at_call 41; refine (pint_ok f x hx.out hf _).mono ?_; rintro e w2 ⟨rfl, g2⟩; have X2 := X1.below g2 X1.lt; have R3 := R2.below g2 R2.lt; have G2 : Gr w1 (w2.setCell ⟨w1.heap.size, 0, none⟩ (.int .i64 x)) := (gx.trans g2).set_ (Nat.le_refl _) _; have S2 := S1.gr G2; have X3 := X2.set_ 0 (.int .i64 x); have R4 := R3.far (p := ⟨w1.heap.size, 0, none⟩) hne (.int .i64 x); have cq00 := X2.at_ (i := 0) (v := .int .i64 0) rfl; have fq00 := X2.frozen 0; have cq01 := X2.at_ (i := 1) (v := .int .i64 4611686018427387904) rfl; have fq01 := X2.frozen 1) | (go_at_call 30; refine (stext_calls x 4611686018427387904 _ S2).mono ?_; rintro e w4 ⟨rfl, g4⟩; have G4 := G2.trans g4; have X7 := X3.below g4 X3.lt; have R7 := R4.below g4 R4.lt; have cs00 := X7.at_ (i := 0) (v := .int .i64 (x)) rfl; have fs00 := X7.frozen 0; have cs01 := X7.at_ (i := 1) (v := .int .i64 4611686018427387904) rfl; have fs01 := X7.frozen 1; have cs10 := R7.at_ (i := 0) (v := .int .i64 0) rfl; have fs10 := R7.frozen 0; have cs11 := R7.at_ (i := 1) (v := .int .i64 0) rfl; have fs11 := R7.frozen 1))
  all_goals refine bodyPost_ret (v := _) (by simp [results, Tryd.results32, go_sem, *]; rfl) rfl ?_
  all_goals exact retPar_no hn.out (by repeat (first | exact G1.trans G4 | exact G4 | refine Gr.set_ ?_ (by simp <;> omega) _))
set_option maxHeartbeats 1600000 in
theorem par_noTo (l f t : List UInt8) (x : Int) (h : Lib.cut l [45] = (f, t, true)) (ht0 : t ≠ []) (hf : f.length ≤ 1000) (ht : t.length ≤ 1000) (hx : Lib.parseIntB 64 f = .ok x) (hp : ∀ v, Lib.parseIntB 64 t ≠ .ok v) (hl : l.length ≤ 1000) (w : World) (hS : Std w) : Calls Tryd.prog 32 #[.string (bstr l)] w (RetPar l w) := by
  have hn : Hid (pspan l = none) := by
    show pspan l = none
    unfold pspan pnum; rw [h]
    cases hq : Lib.parseIntB 64 t with
    | ok v => exact absurd hq (hp v)
    | _ => simp [hq, ht0]
  have htt : (bstr t).toList.isEmpty = false := by cases t with
    | nil => exact absurd rfl ht0
    | cons c t => simp [bstr_list]
  clear ht0
  replace h : Hid _ := h
  try replace hx : Hid _ := hx
  try replace hy : Hid _ := hy
  try replace hp : Hid _ := hp
  have g0 : Gr w (w.alloc (.cells #[.int .i64 0, .int .i64 0] 23)) := (Gr.refl w).alloc _
  have s0 := hS.gr g0
  have c0 : Blk (w.alloc (.cells #[.int .i64 0, .int .i64 0] 23)) w.heap.size _ _ := Blk.new w 23 #[.int .i64 0, .int .i64 0]
  go_enter Tryd.func32, Tryd.ntmps32
  go_wp2_with (first | (go_at_call 40; refine (cut_calls l f t true h.out hl _ s0).mono ?_; rintro e w1 ⟨rfl, g1⟩; have R1 := c0.below g1 c0.lt; have G1 := g0.trans g1; have S1 := s0.gr g1; have cp10 := R1.at_ (i := 0) (v := .int .i64 0) rfl; have fp10 := R1.frozen 0; have cp11 := R1.at_ (i := 1) (v := .int .i64 0) rfl; have fp11 := R1.frozen 1; have gx : Gr w1 (w1.alloc (.cells #[.int .i64 0, .int .i64 4611686018427387904] 23)) := (Gr.refl w1).alloc _; have s1 := S1.gr gx; have X1 := Blk.new w1 23 #[.int .i64 0, .int .i64 4611686018427387904]; have R2 := R1.below gx R1.lt; have hne : w.heap.size ≠ w1.heap.size := Nat.ne_of_lt R1.lt; have hne' : w1.heap.size ≠ w.heap.size := Ne.symm hne; have hlt : w.heap.size < w1.heap.size := R1.lt) | (go_at_call 41; have _q := X3; refine (pint_no t hp.out ht _ S2).mono ?_; rintro e w3 ⟨vv, NN, rfl, g3⟩; have G3 := G2.trans g3; have X4 := X3.below g3 X3.lt; have R5 := R4.below g3 R4.lt; have cr00 := X4.at_ (i := 0) (v := .int .i64 (x)) rfl; have fr00 := X4.frozen 0; have cr01 := X4.at_ (i := 1) (v := .int .i64 4611686018427387904) rfl; have fr01 := X4.frozen 1; have cr10 := R5.at_ (i := 0) (v := .int .i64 0) rfl; have fr10 := R5.frozen 0; have cr11 := R5.at_ (i := 1) (v := .int .i64 0) rfl; have fr11 := R5.frozen 1) | (go_at_call 41; refine (pint_ok f x hx.out hf _).mono ?_; rintro e w2 ⟨rfl, g2⟩; have X2 := X1.below g2 X1.lt; have R3 := R2.below g2 R2.lt; have G2 : Gr w1 (w2.setCell ⟨w1.heap.size, 0, none⟩ (.int .i64 x)) := (gx.trans g2).set_ (Nat.le_refl _) _; have S2 := S1.gr G2; have X3 := X2.set_ 0 (.int .i64 x); have R4 := R3.far (p := ⟨w1.heap.size, 0, none⟩) hne (.int .i64 x); have cq00 := X2.at_ (i := 0) (v := .int .i64 0) rfl; have fq00 := X2.frozen 0; have cq01 := X2.at_ (i := 1) (v := .int .i64 4611686018427387904) rfl; have fq01 := X2.frozen 1))
  all_goals refine bodyPost_ret (v := _) (by simp [results, Tryd.results32, go_sem, *]; rfl) rfl ?_
  all_goals exact retPar_no hn.out (by repeat (first | exact G1.trans G3 | exact G3 | refine Gr.set_ ?_ (by simp <;> omega) _))
set_option maxHeartbeats 1600000 in
theorem par_yes (l f t : List UInt8) (x y : Int) (h : Lib.cut l [45] = (f, t, true)) (ht0 : t ≠ []) (hf : f.length ≤ 1000) (ht : t.length ≤ 1000) (hx : Lib.parseIntB 64 f = .ok x) (hy : Lib.parseIntB 64 t = .ok y) (he : textL x y = l) (hl : l.length ≤ 1000) (w : World) (hS : Std w) : Calls Tryd.prog 32 #[.string (bstr l)] w (RetPar l w) := by
  have hn : Hid (pspan l = some (x, y)) := by
    show pspan l = some (x, y)
    unfold pspan pnum; rw [h]
    simp [hx, hy, he, ht0]
  have htt : (bstr t).toList.isEmpty = false := by cases t with
    | nil => exact absurd rfl ht0
    | cons c t => simp [bstr_list]
  clear ht0
  have hee : ((bstr (textL x y)).toList == (bstr l).toList) = decide (textL x y = l) := by rw [bstr_list, bstr_list, Bool.eq_iff_iff]; simp
  rw [decide_eq_true he] at hee
  clear he
  replace h : Hid _ := h
  try replace hx : Hid _ := hx
  try replace hy : Hid _ := hy
  try replace hp : Hid _ := hp
  have g0 : Gr w (w.alloc (.cells #[.int .i64 0, .int .i64 0] 23)) := (Gr.refl w).alloc _
  have s0 := hS.gr g0
  have c0 : Blk (w.alloc (.cells #[.int .i64 0, .int .i64 0] 23)) w.heap.size _ _ := Blk.new w 23 #[.int .i64 0, .int .i64 0]
  go_enter Tryd.func32, Tryd.ntmps32
  go_wp2_with (first | (go_at_call 40; refine (cut_calls l f t true h.out hl _ s0).mono ?_; rintro e w1 ⟨rfl, g1⟩; have R1 := c0.below g1 c0.lt; have G1 := g0.trans g1; have S1 := s0.gr g1; have cp10 := R1.at_ (i := 0) (v := .int .i64 0) rfl; have fp10 := R1.frozen 0; have cp11 := R1.at_ (i := 1) (v := .int .i64 0) rfl; have fp11 := R1.frozen 1; have gx : Gr w1 (w1.alloc (.cells #[.int .i64 0, .int .i64 4611686018427387904] 23)) := (Gr.refl w1).alloc _; have s1 := S1.gr gx; have X1 := Blk.new w1 23 #[.int .i64 0, .int .i64 4611686018427387904]; have R2 := R1.below gx R1.lt; have hne : w.heap.size ≠ w1.heap.size := Nat.ne_of_lt R1.lt; have hne' : w1.heap.size ≠ w.heap.size := Ne.symm hne; have hlt : w.heap.size < w1.heap.size := R1.lt) | (go_at_call 41; have _q := X3; refine (pint_ok t y hy.out ht _).mono ?_; rintro e w3 ⟨rfl, g3⟩; have X4 := X3.below g3 X3.lt; have R5 := R4.below g3 R4.lt; have G3 : Gr w1 (w3.setCell ⟨w1.heap.size, 1, none⟩ (.int .i64 y)) := (G2.trans g3).set_ (Nat.le_refl _) _; have S3 := S1.gr G3; have X5 := X4.set_ 1 (.int .i64 y); have R6 := R5.far (p := ⟨w1.heap.size, 1, none⟩) hne (.int .i64 y); have cr00 := X4.at_ (i := 0) (v := .int .i64 (x)) rfl; have fr00 := X4.frozen 0; have cr01 := X4.at_ (i := 1) (v := .int .i64 4611686018427387904) rfl; have fr01 := X4.frozen 1) | (go_at_call 41; refine (pint_ok f x hx.out hf _).mono ?_; rintro e w2 ⟨rfl, g2⟩; have X2 := X1.below g2 X1.lt; have R3 := R2.below g2 R2.lt; have G2 : Gr w1 (w2.setCell ⟨w1.heap.size, 0, none⟩ (.int .i64 x)) := (gx.trans g2).set_ (Nat.le_refl _) _; have S2 := S1.gr G2; have X3 := X2.set_ 0 (.int .i64 x); have R4 := R3.far (p := ⟨w1.heap.size, 0, none⟩) hne (.int .i64 x); have cq00 := X2.at_ (i := 0) (v := .int .i64 0) rfl; have fq00 := X2.frozen 0; have cq01 := X2.at_ (i := 1) (v := .int .i64 4611686018427387904) rfl; have fq01 := X2.frozen 1) | (go_at_call 30; refine (stext_calls x y _ S3).mono ?_; rintro e w4 ⟨rfl, g4⟩; have G4 := G3.trans g4; have X7 := X5.below g4 X5.lt; have R7 := R6.below g4 R6.lt; have cs00 := X7.at_ (i := 0) (v := .int .i64 (x)) rfl; have fs00 := X7.frozen 0; have cs01 := X7.at_ (i := 1) (v := .int .i64 (y)) rfl; have fs01 := X7.frozen 1; have cs10 := R7.at_ (i := 0) (v := .int .i64 0) rfl; have fs10 := R7.frozen 0; have cs11 := R7.at_ (i := 1) (v := .int .i64 0) rfl; have fs11 := R7.frozen 1))
  all_goals refine bodyPost_ret (v := _) (by simp [results, Tryd.results32, go_sem, *]; rfl) rfl ?_
  all_goals exact retPar_yes hn.out (by repeat (first | exact G1.trans G4 | exact G4 | refine Gr.set_ ?_ (by simp <;> omega) _))
set_option maxHeartbeats 1600000 in
theorem par_no (l f t : List UInt8) (x y : Int) (h : Lib.cut l [45] = (f, t, true)) (ht0 : t ≠ []) (hf : f.length ≤ 1000) (ht : t.length ≤ 1000) (hx : Lib.parseIntB 64 f = .ok x) (hy : Lib.parseIntB 64 t = .ok y) (he : textL x y ≠ l) (hl : l.length ≤ 1000) (w : World) (hS : Std w) : Calls Tryd.prog 32 #[.string (bstr l)] w (RetPar l w) := by
  have hn : Hid (pspan l = none) := by
    show pspan l = none
    unfold pspan pnum; rw [h]
    simp [hx, hy, he, ht0]
  have htt : (bstr t).toList.isEmpty = false := by cases t with
    | nil => exact absurd rfl ht0
    | cons c t => simp [bstr_list]
  clear ht0
  have hee : ((bstr (textL x y)).toList == (bstr l).toList) = decide (textL x y = l) := by rw [bstr_list, bstr_list, Bool.eq_iff_iff]; simp
  rw [decide_eq_false he] at hee
  clear he
  replace h : Hid _ := h
  try replace hx : Hid _ := hx
  try replace hy : Hid _ := hy
  try replace hp : Hid _ := hp
  have g0 : Gr w (w.alloc (.cells #[.int .i64 0, .int .i64 0] 23)) := (Gr.refl w).alloc _
  have s0 := hS.gr g0
  have c0 : Blk (w.alloc (.cells #[.int .i64 0, .int .i64 0] 23)) w.heap.size _ _ := Blk.new w 23 #[.int .i64 0, .int .i64 0]
  go_enter Tryd.func32, Tryd.ntmps32
  go_wp2_with (first | (go_at_call 40; refine (cut_calls l f t true h.out hl _ s0).mono ?_; rintro e w1 ⟨rfl, g1⟩; have R1 := c0.below g1 c0.lt; have G1 := g0.trans g1; have S1 := s0.gr g1; have cp10 := R1.at_ (i := 0) (v := .int .i64 0) rfl; have fp10 := R1.frozen 0; have cp11 := R1.at_ (i := 1) (v := .int .i64 0) rfl; have fp11 := R1.frozen 1; have gx : Gr w1 (w1.alloc (.cells #[.int .i64 0, .int .i64 4611686018427387904] 23)) := (Gr.refl w1).alloc _; have s1 := S1.gr gx; have X1 := Blk.new w1 23 #[.int .i64 0, .int .i64 4611686018427387904]; have R2 := R1.below gx R1.lt; have hne : w.heap.size ≠ w1.heap.size := Nat.ne_of_lt R1.lt; have hne' : w1.heap.size ≠ w.heap.size := Ne.symm hne; have hlt : w.heap.size < w1.heap.size := R1.lt) | (go_at_call 41; have _q := X3; refine (pint_ok t y hy.out ht _).mono ?_; rintro e w3 ⟨rfl, g3⟩; have X4 := X3.below g3 X3.lt; have R5 := R4.below g3 R4.lt; have G3 : Gr w1 (w3.setCell ⟨w1.heap.size, 1, none⟩ (.int .i64 y)) := (G2.trans g3).set_ (Nat.le_refl _) _; have S3 := S1.gr G3; have X5 := X4.set_ 1 (.int .i64 y); have R6 := R5.far (p := ⟨w1.heap.size, 1, none⟩) hne (.int .i64 y); have cr00 := X4.at_ (i := 0) (v := .int .i64 (x)) rfl; have fr00 := X4.frozen 0; have cr01 := X4.at_ (i := 1) (v := .int .i64 4611686018427387904) rfl; have fr01 := X4.frozen 1) | (go_at_call 41; refine (pint_ok f x hx.out hf _).mono ?_; rintro e w2 ⟨rfl, g2⟩; have X2 := X1.below g2 X1.lt; have R3 := R2.below g2 R2.lt; have G2 : Gr w1 (w2.setCell ⟨w1.heap.size, 0, none⟩ (.int .i64 x)) := (gx.trans g2).set_ (Nat.le_refl _) _; have S2 := S1.gr G2; have X3 := X2.set_ 0 (.int .i64 x); have R4 := R3.far (p := ⟨w1.heap.size, 0, none⟩) hne (.int .i64 x); have cq00 := X2.at_ (i := 0) (v := .int .i64 0) rfl; have fq00 := X2.frozen 0; have cq01 := X2.at_ (i := 1) (v := .int .i64 4611686018427387904) rfl; have fq01 := X2.frozen 1) | (go_at_call 30; refine (stext_calls x y _ S3).mono ?_; rintro e w4 ⟨rfl, g4⟩; have G4 := G3.trans g4; have X7 := X5.below g4 X5.lt; have R7 := R6.below g4 R6.lt; have cs00 := X7.at_ (i := 0) (v := .int .i64 (x)) rfl; have fs00 := X7.frozen 0; have cs01 := X7.at_ (i := 1) (v := .int .i64 (y)) rfl; have fs01 := X7.frozen 1; have cs10 := R7.at_ (i := 0) (v := .int .i64 0) rfl; have fs10 := R7.frozen 0; have cs11 := R7.at_ (i := 1) (v := .int .i64 0) rfl; have fs11 := R7.frozen 1))
  all_goals refine bodyPost_ret (v := _) (by simp [results, Tryd.results32, go_sem, *]; rfl) rfl ?_
  all_goals exact retPar_no hn.out (by repeat (first | exact G1.trans G4 | exact G4 | refine Gr.set_ ?_ (by simp <;> omega) _))
theorem sparse_calls (l : List UInt8) (hl : l.length ≤ 1000) (w : World) (hS : Std w) : Calls Tryd.prog 32 #[.string (bstr l)] w (RetPar l w) := by
  have hlen : (Lib.cut l [45]).1.length ≤ l.length ∧ (Lib.cut l [45]).2.1.length ≤ l.length := by
    unfold Lib.cut
    split
    · simp; omega
    · simp
  obtain ⟨⟨f, t, ok⟩, h⟩ : ∃ c, Lib.cut l [45] = c := ⟨_, rfl⟩
  rw [h] at hlen
  obtain ⟨hf, ht⟩ := hlen
  have hf' : f.length ≤ 1000 := Nat.le_trans hf hl
  have ht' : t.length ≤ 1000 := Nat.le_trans ht hl
  cases ok with
  | false => exact par_noCut l f t h hl w hS
  | true =>
    rcases hx : Lib.parseIntB 64 f with x | _ | _
    · by_cases ht0 : t = []
      · by_cases he : textL x 4611686018427387904 = l
        · exact par_openYes l f t x h ht0 hf' hx he hl w hS
        · exact par_openNo l f t x h ht0 hf' hx he hl w hS
      · rcases hy : Lib.parseIntB 64 t with y | _ | _
        · by_cases he : textL x y = l
          · exact par_yes l f t x y h ht0 hf' ht' hx hy he hl w hS
          · exact par_no l f t x y h ht0 hf' ht' hx hy he hl w hS
        · exact par_noTo l f t x h ht0 hf' ht' hx (fun v hv => by rw [hy] at hv; cases hv) hl w hS
        · exact par_noTo l f t x h ht0 hf' ht' hx (fun v hv => by rw [hy] at hv; cases hv) hl w hS
    · exact par_noFrom l f t h hf' (fun v hv => by rw [hx] at hv; cases hv) hl w hS
    · exact par_noFrom l f t h hf' (fun v hv => by rw [hx] at hv; cases hv) hl w hS
end Go.Proofs.YtpcedmiehoimbaaDoor
