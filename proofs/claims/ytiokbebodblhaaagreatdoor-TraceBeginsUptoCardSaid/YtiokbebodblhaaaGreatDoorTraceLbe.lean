/-
  The statement TraceBegins walked: any beginning of a right trace is right, and nobody's events between change nothing.
-/
import Derived.Test.YtiokbebodblhaaaGreatDoorTSmf
import Derived.Test.YtiokbebodblhaaaGreatDoorTAl
import Derived.Test.YtiokbebodblhaaaGreatDoorTraceSp
import Derived.Test.YtiokbebodblhaaaGreatDoorTraceRn
import Derived.Lib.SlBytesConst
namespace Go.Proofs.YtiokbebodblhaaaGreatDoor
open Go.RowKit TraceP
attribute [local go_sem] Row.val

theorem sliced_zero (a : Option Addr) (h m s : Nat) : sliced a 0 h m s = .slice a h m := by
  unfold sliced
  split
  · rfl
  · cases a with
    | none => rfl
    | some a => simp [Addr.add]
attribute [local go_sem ↓ high] sliced_zero
theorem fill171 (a b c : EvtR) : Instr.fill (fun i => some (i * 57, 57)) ((Array.range (3 * 57)).map (fun x => (Value.agg zEvtR.cells.toArray).cells[x % (Value.agg zEvtR.cells.toArray).cells.size]!)) [(0, .agg a.cells.toArray), (1, .agg b.cells.toArray), (2, .agg c.cells.toArray)] = some (fl EvtR.cells [a, b, c]).toArray := by kernel_rfl
/-- A row of three events is made. -/
theorem wp_row3 {o : Oper} {a : Act} {w : World} {K : Act → World → Prop} {Q : Exit → Act → World → Prop} (x y z : Operand) (ho : o.op = .buildSlice 48 3 #[(0, x), (1, y), (2, z)]) (e f g : EvtR) (hx : a.eval x = .agg e.cells.toArray) (hy : a.eval y = .agg f.cells.toArray) (hz : a.eval z = .agg g.cells.toArray)
    (h : K (a.put o.dst (.slice (some ⟨w.heap.size, 0, none⟩) 3 3)) (w.alloc (.cells (fl EvtR.cells [e, f, g]).toArray 45))) : o.wp Tryz.prog a w K Q := by
  obtain ⟨i, hi, hzz, hs, hb⟩ := info_parts info_event
  refine wp_buildSlice 48 45 3 _ ho (fl EvtR.cells [e, f, g]).toArray i _ Tryz.underlying48 hi hzz (by rw [hs]; decide) (by rw [hs]; decide) ?_ h
  rw [hs]
  have e1 : ((#[(0, x), (1, y), (2, z)] : Array (Nat × Operand)).map fun (i, x) => (i, a.eval x)).toList = [(0, .agg e.cells.toArray), (1, .agg f.cells.toArray), (2, .agg g.cells.toArray)] := by simp [hx, hy, hz]
  rw [e1]
  exact fill171 e f g
/-- Where the rest of a row begins. -/
def tailS (A : Option Addr) (m k s : Nat) : Option Addr := if m = k then A else A.map (·.add (k * s))
theorem sliced_tail (a : Option Addr) (l h m s : Nat) : sliced a l h m s = .slice (tailS a m l s) (h - l) (m - l) := rfl
attribute [local go_sem ↓] sliced_tail
theorem RV.tail57 {w : World} {A : Option Addr} {l : List EvtR} {c : Nat} (h : RV w A (fl EvtR.cells l)) (hc : l.length ≤ c) (k : Nat) : RV w (tailS A c k 57) (fl EvtR.cells (l.drop k)) := by
  intro hne
  by_cases hk : k < l.length
  · have hne0 : fl EvtR.cells l ≠ [] := fun q => by
      rw [← List.take_append_drop k l, fl_append] at q
      exact hne (List.append_eq_nil_iff.1 q).2
    obtain ⟨b, off, e, h1, h2⟩ := h hne0
    subst e
    refine ⟨b, off + k * 57, ?_, h1, fun j v hv => ?_⟩
    · unfold tailS
      rw [if_neg (by omega)]
      by_cases k0 : k = 0
      · subst k0; simp [Addr.add]
      · have : k * 57 ≠ 0 := by omega
        simp [Addr.add, this]
    · rw [Nat.add_assoc]
      refine h2 _ v ?_
      have e1 : fl EvtR.cells l = fl EvtR.cells (l.take k) ++ fl EvtR.cells (l.drop k) := by rw [← fl_append, List.take_append_drop]
      have e2 : (fl EvtR.cells (l.take k)).length = k * 57 := by rw [fl_len EvtR.cells_len, List.length_take, Nat.min_eq_left (by omega)]
      rw [e1, List.getElem?_append_right (by omega), e2, Nat.add_sub_cancel_left]
      exact hv
  · exact absurd (by rw [List.drop_eq_nil_of_le (by omega)]; rfl) hne
def ePurge (t : Int) (kb : Nat) : EvtR := { zEvtR with kind := 5, tick := t, keys := ⟨some ⟨kb, 0, none⟩, 1, [[120]]⟩ }
def mSet : MetR := { zMetR with len := 1, have_ := 1 }
def eSet (t : Int) (bb : Nat) : EvtR := { zEvtR with kind := 1, tick := t, object := noT, met := mSet, bytes := ⟨some ⟨bb, 0, none⟩, 1, [120]⟩ }
def eCrash (t : Int) : EvtR := { zEvtR with kind := 16, tick := t, node := noN }
theorem i1T : I64 1 := ⟨by decide, by decide⟩
theorem i5T : I64 5 := ⟨by decide, by decide⟩
theorem i16T : I64 16 := ⟨by decide, by decide⟩
theorem inT : I64 noN := ⟨by decide, by decide⟩
theorem ePurge_ok {w : World} {t : Int} {kb : Nat} (ht : I64 t) (h : Blk w kb 9 #[.string (bstr [120])]) : EvtOK w (ePurge t kb) := by
  have z := zEvtR_ok w
  refine ⟨i5T, ht, z.node, z.who, z.req, z.met, z.ans, z.fet, z.rep, z.bytes, ⟨Nat.le_refl _, by show (1 : Nat) ≤ _; omega, fun _ => ⟨kb, 0, rfl, h.lt, fun j v hj => ?_⟩⟩⟩
  rw [Nat.zero_add]
  exact h.at_ (by rw [List.getElem?_toArray]; exact hj)
theorem mSet_ok (w : World) : MetOK w mSet := ⟨RowOK.none _ _, by unfold MetI I64; simp [mSet, zMetR, MetR.abs, noRow]⟩
/-- The byte's row, with the mark that a conversion leaves. -/
def Blx (w : World) (g : Nat) : Prop := w.heap[g]? = some (.cells #[.int .u8 120] 5 (1, 1 + 1))
theorem Blx.lt {w : World} {g : Nat} (h : Blx w g) : g < w.heap.size := lt_of_block h
theorem Blx.below {w w' : World} {g : Nat} (h : Blx w g) (d : Below w.heap.size w w') : Blx w' g := (d.block g h.lt).trans h
theorem Blx.grown {w w' : World} {row : Option Nat} {g : Nat} (h : Blx w g) (q : w.grownBy w' row) (hr : some g ≠ row) : Blx w' g := (q.block g h.lt hr).trans h
theorem eSet_ok {w : World} {t : Int} {bb : Nat} (ht : I64 t) (h : Blx w bb) : EvtOK w (eSet t bb) := by
  have z := zEvtR_ok w
  refine ⟨i1T, ht, z.node, z.who, z.req, mSet_ok w, z.ans, z.fet, z.rep, ⟨Nat.le_refl _, by show (1 : Nat) ≤ _; omega, fun _ => ⟨bb, 0, rfl, h.lt, fun j v hj => ?_⟩⟩, z.keys⟩
  rw [Nat.zero_add]
  exact (cell_of_row w bb j _ _ _ h).trans (by rw [List.getElem?_toArray]; exact hj)
theorem eCrash_ok {w : World} {t : Int} (ht : I64 t) : EvtOK w (eCrash t) := by
  have z := zEvtR_ok w
  exact ⟨i16T, ht, inT, z.who, z.req, z.met, z.ans, z.fet, z.rep, z.bytes, z.keys⟩
theorem blk_grown {w w' : World} {row : Option Nat} {g : Nat} {t : TypeId} {cs : Array Value} (h : Blk w g t cs) (q : w.grownBy w' row) (hr : some g ≠ row) : Blk w' g t cs := (q.block g h.lt hr).trans h
theorem tick_take {l : List EvtR} {j : Nat} (h : j < l.length) : tickOf ((absL l).take (j + 1)) = l[j].tick := by
  rw [absL_take h]
  unfold tickOf
  rw [List.getLast?_append]
  rfl
set_option maxRecDepth 100000 in
set_option maxHeartbeats 3200000 in
theorem traceBegins_walk (W : World) (hT : Std W) (A : Option Addr) (c : Nat) (l : List EvtR) (h : RV W A (fl EvtR.cells l) ∧ l.length ≤ c ∧ c ≤ 9223372036854775807 ∧ l.length ≤ 1048576 ∧ ∀ e ∈ l, EvtOK W e ∧ BigE e.abs) (at_ : UInt8) :
    Calls Tryz.prog 7 #[.slice A l.length c, .int .u8 (at_.toNat : Int)] W fun e w' => e = .returned (.bool true) ∧ Below W.heap.size W w' := by
  have r0 : EvsOK W A l c := ⟨h.1, h.2.1, h.2.2.1, fun e he => (h.2.2.2.2 e he).1⟩
  have g0 := Lib.hid fun e he => (h.2.2.2.2 e he).2
  clear h
  have AL := alive_calls W hT
  go_enter Tryz.func7, Tryz.ntmps7
  go_upto_region 3 with (go_at_call 11; refine AL.mono ?_; rintro _ w1 ⟨rfl, B1⟩; clear AL)
  have SC := small_calls w1 A c l (r0.below B1) g0.out 40 (by omega)
  with_reducible refine wp_region_lit ?_
  with_reducible refine wpList_cutAt 2 ?_
  simp only [List.take_succ_cons, List.take_zero, List.drop_succ_cons, List.drop_zero]
  go_wp2_with (go_at_call 12; refine SC.mono ?_; rintro _ w2 ⟨q, rfl, hs, d2⟩; clear SC)
  with_reducible refine CutQ.go_ ?_
  have B2 := B1.trans (d2.mono B1.size)
  clear B1 d2
  cases q
  · go_wp2_with fail
    go_ret
    exact ⟨rfl, B2⟩
  have lm : l.length ≤ 40 := (hs rfl).1
  have hob : ∀ e ∈ l, e.object.length ≤ 9223372036854775807 := fun e he => Nat.le_trans (g0.out e he).object (by decide)
  clear hs g0
  replace hob := Lib.hid hob
  have P1 := pright_calls w2 (hT.below B2) A c l (r0.below B2) hob.out (by omega)
  obtain ⟨rr, hrr⟩ : ∃ x, x = rightL (absL l) := ⟨_, rfl⟩
  obtain ⟨n, hn, hcase, hok⟩ := begins_ok (absL l)
  rw [← hrr] at P1 hcase
  rw [absL_len] at hn hcase
  replace hrr := Lib.hid hrr
  replace hok := Lib.hid hok
  go_upto_region 6 with (go_at_call 20; refine P1.mono ?_; rintro _ w3 ⟨rfl, d3⟩; have B3 := B2.trans (d3.mono B2.size); clear P1 d3 B2)
  go_upto_if 23 with fail
  go_cut [6] from 22 to 24 (fun v wx => v = .int .i64 (n : Int) ∧ wx = w3)
  case first =>
    rcases hcase with ⟨h1, h2⟩ | h1
    · have d1 : decide ((0 : Int) ≤ rr) = false := decide_eq_false (by omega)
      rw [d1]
      have H2 := Lib.hid h2
      clear h2 h1 d1
      go_wp2_with fail
      go_meet
      exact ⟨by rw [H2.out], rfl⟩
    · have d1 : decide ((0 : Int) ≤ rr) = true := decide_eq_true (by omega)
      rw [d1]
      have H1 := Lib.hid h1
      clear h1 d1
      go_wp2_with fail
      go_meet
      exact ⟨by rw [H1.out], rfl⟩
  obtain ⟨rfl, rfl⟩ := hcut
  have nc : n ≤ c := Nat.le_trans hn r0.le
  have cm := r0.cap
  have P2 := pright_calls wc (hT.below B3) A c (l.take n) ((r0.below B3).take n) (fun e he => hob.out e (List.mem_of_mem_take he)) (by rw [List.length_take]; omega)
  have hln : (l.take n).length = n := by rw [List.length_take]; omega
  rw [hln, absL_takeN, hok.out n (Nat.le_refl _)] at P2
  have d1 : decide ((l.length : Int) < (n : Int)) = false := decide_eq_false (by omega)
  have c1 : (((-1 : Int)) != -1) = false := rfl
  go_upto_region 9 with fail
  with_reducible refine wp_region_lit ?_
  with_reducible refine wpList_cutAt 5 ?_
  simp only [List.take_succ_cons, List.take_zero, List.drop_succ_cons, List.drop_zero]
  go_wp2_with fail
  with_reducible refine CutQ.go_ ?_
  with_reducible refine wpList_cutAt 3 ?_
  simp only [List.take_succ_cons, List.take_zero, List.drop_succ_cons, List.drop_zero]
  go_wp2_with fail
  with_reducible refine CutQ.go_ ?_
  with_reducible refine wpList_cutAt 1 ?_
  simp only [List.take_succ_cons, List.take_zero, List.drop_succ_cons, List.drop_zero]
  go_wp2_with (go_at_call 20; refine P2.mono ?_; rintro _ w4 ⟨rfl, d4⟩; clear P2)
  with_reducible refine CutQ.go_ ?_
  have B4 := B3.trans (d4.mono B3.size)
  clear d4 B3 d1
  go_upto_region 11 with fail
  obtain ⟨k, hk⟩ : ∃ k : Nat, k = at_.toNat % (n + 1) := ⟨_, rfl⟩
  have kn : k ≤ n := by rw [hk]; exact Nat.le_of_lt_succ (Nat.mod_lt _ (by omega))
  go_upto_region 12 with fail
  have hkv : (wrap64 (at_.toNat : Int)).tmod ((n : Int) + 1) = (k : Int) := by
    have h8 := at_.toNat_lt
    have e1 : wrap64 (at_.toNat : Int) = (at_.toNat : Int) := by unfold wrap64; omega
    rw [e1, hk, Int.natCast_emod]
    exact Int.tmod_eq_emod_of_nonneg (by omega)
  rw [hkv]
  clear hkv hk
  have P3 := pright_calls w4 (hT.below B4) A c (l.take k) ((r0.below B4).take k) (fun e he => hob.out e (List.mem_of_mem_take he)) (by rw [List.length_take]; omega)
  have hlk : (l.take k).length = k := by rw [List.length_take]; omega
  have hgk : rightL ((absL l).take k) = -1 := hok.out k kn
  rw [hlk, absL_takeN, hgk] at P3
  have kc : k ≤ c := Nat.le_trans kn nc
  go_upto_region 14 with (go_at_call 20; refine P3.mono ?_; rintro _ w5 ⟨rfl, d5⟩; clear P3)
  have B5 := B4.trans (d5.mono B4.size)
  clear d5 B4 hln
  obtain ⟨tk, htk⟩ : ∃ t, t = tickOf ((absL l).take k) := ⟨_, rfl⟩
  go_upto_if 47 with fail
  go_cut [8] from 47 to 53 (fun v wx => v = .int .i64 tk ∧ wx = w5)
  case first =>
    by_cases k0 : k = 0
    · have d1 : decide ((0 : Int) < (k : Int)) = false := decide_eq_false (by omega)
      have d2 : decide (0 < k) = false := decide_eq_false (by omega)
      simp only [d2]
      rw [k0] at htk
      replace htk := Lib.hid htk
      clear d1 d2 k0
      go_wp2_with fail
      go_meet
      exact ⟨by rw [htk.out]; rfl, rfl⟩
    · obtain ⟨j, hj⟩ : ∃ j, k = j + 1 := ⟨k - 1, by omega⟩
      have d1 : decide ((0 : Int) < (k : Int)) = true := decide_eq_true (by omega)
      have d2 : decide (0 < k) = true := decide_eq_true (by omega)
      simp only [d2]
      have hjl : j < l.length := by omega
      rw [hj, tick_take hjl] at htk
      obtain ⟨b, off, rfl, hbs, hc⟩ := evt_at (r0.rv.below B5) hjl
      generalize l[j] = x at *
      have hc1 : w5.cell? ⟨b, off + j * 57 + 1, none⟩ = some (.int .i64 x.tick) := hc 1 _ rfl
      have dec : decide (j < l.length) = true := decide_eq_true hjl
      subst hj
      replace htk := Lib.hid htk
      clear d1 d2 k0 hc
      go_wp2_with fail
      go_meet
      exact ⟨by rw [htk.out], rfl⟩
  obtain ⟨rfl, rfl⟩ := hcut
  replace htk := Lib.hid htk
  go_upto_region 17 with fail
  have rk := ((r0.below B5).take k).rv
  with_reducible refine wp_region_lit ?_
  with_reducible refine wpList_cutAt 4 ?_
  simp only [List.take_succ_cons, List.take_zero, List.drop_succ_cons, List.drop_zero]
  go_wp2_with fail
  with_reducible refine CutQ.go_ ?_
  have tkI : I64 tk := by
    rw [htk.out]
    by_cases k0 : k = 0
    · subst k0; exact i0
    · obtain ⟨j, rfl⟩ : ∃ j, k = j + 1 := ⟨k - 1, by omega⟩
      have hjl : j < l.length := by omega
      rw [tick_take hjl]
      exact (r0.ok _ (List.getElem_mem hjl)).tick
  have own0 := own_empty wc 45 57 B5.size
  have Ba := B5.trans ((below_new wc (.cells #[] 45)).mono B5.size)
  have rka := rk.below (below_new wc (.cells #[] 45))
  have lk57 : (fl EvtR.cells (l.take k)).length = k * 57 := by rw [fl_len EvtR.cells_len, hlk]
  with_reducible refine wpList_append_rv el_event (by kernel_rfl) (.tmp 54) (.tmp 57) rfl W.heap.size (.slice (some ⟨wc.heap.size, 0, none⟩) 0 0) 0 [] (by kernel_rfl) own0 A k c (fl EvtR.cells (l.take k)) (by kernel_rfl) lk57 rka (fl_oneCell EvtR.cells_one _) ?f2 ?f3 ?f4 ?_
  case f2 => unfold maxLen; omega
  case f3 => omega
  case f4 => exact Ba.size
  intro v6 w6 own6 gr6 _
  have B6 : Below W.heap.size W w6 := below_grownS Ba gr6 (fun k hk => (own0.lt k hk).1)
  rw [Nat.zero_add, List.nil_append] at own6
  clear gr6 own0 Ba rka rk lk57 B5
  go_upto_region 18 with fail
  with_reducible refine wp_region_lit ?_
  with_reducible refine wpList_cutAt 3 ?_
  simp only [List.take_succ_cons, List.take_zero, List.drop_succ_cons, List.drop_zero]
  repeat (first | go_values | go_skip | go_guarded | go_step | go_upon)
  with_reducible refine CutQ.go_ ?_
  with_reducible refine wpList_abs (fun w' => Blk w' w6.heap.size 9 #[.string (bstr [120])] ∧ Below w6.heap.size w6 w') ?_ ?_
  · exact ⟨Blk.new w6 9 #[.string (bstr [120])], below_new w6 (.cells #[.string (bstr [120])] 9)⟩
  rintro w7 ⟨bK, d7⟩
  with_reducible refine wpList_build_eq rfl 45 _ rfl (ePurge tk w6.heap.size).cells.toArray (by kernel_rfl) ?_
  go_frame
  with_reducible refine wpList_cutAt 1 ?_
  simp only [List.take_succ_cons, List.take_zero, List.drop_succ_cons, List.drop_zero]
  repeat (first | go_values | go_skip | go_guarded | go_step | go_upon)
  with_reducible refine CutQ.go_ ?_
  with_reducible refine wpList_build_eq rfl 32 _ rfl mSet.cells.toArray (by kernel_rfl) ?_
  go_frame
  have kc := Lib.run_convert_bytes_const (P := Tryz.prog) w7 43 5 #[.int .u8 120] 1 1 Tryz.underlying43 Tryz.underlying5
  with_reducible refine wpList_cutAt 2 ?_
  simp only [List.take_succ_cons, List.take_zero, List.drop_succ_cons, List.drop_zero]
  go_wp2_with fail
  with_reducible refine CutQ.go_ ?_
  clear kc
  have B7 := B6.trans (d7.mono B6.size)
  have own7 := own_below own6 d7 (fun k hk => (own6.lt k hk).2)
  have hk7 : w6.heap.size < w7.heap.size := bK.lt
  with_reducible refine wpList_abs (fun w' => Blx w' w7.heap.size ∧ Below w7.heap.size w7 w') ?_ ?_
  · exact ⟨heap_alloc_new w7 _, (Below.refl _ _).alloc (Nat.le_refl _) _⟩
  rintro w8 ⟨bB, d8⟩
  with_reducible refine wpList_build_eq rfl 45 _ rfl (eSet tk w7.heap.size).cells.toArray (by kernel_rfl) ?_
  go_frame
  with_reducible refine wpList_cutAt 1 ?_
  simp only [List.take_succ_cons, List.take_zero, List.drop_succ_cons, List.drop_zero]
  repeat (first | go_values | go_skip | go_guarded | go_step | go_upon)
  with_reducible refine CutQ.go_ ?_
  with_reducible refine wpList_build_eq rfl 45 _ rfl (eCrash tk).cells.toArray (by kernel_rfl) ?_
  go_frame
  with_reducible refine wpList_one (by kernel_rfl) (fun Kb hKb => ?_)
  refine wp_row3 (.tmp 62) (.tmp 67) (.tmp 69) rfl (ePurge tk w6.heap.size) (eSet tk w7.heap.size) (eCrash tk) (by kernel_rfl) (by kernel_rfl) (by kernel_rfl) ?_
  refine hKb _ _ ?_
  clear hKb Kb
  go_frame
  have B8 := B7.trans (d8.mono B7.size)
  have own8 := own_below own7 d8 (fun k hk => (own7.lt k hk).2)
  have bK8 := bK.below d8 bK.lt
  have hk8 : w7.heap.size < w8.heap.size := bB.lt
  obtain ⟨kb, hkb⟩ : ∃ b, b = w6.heap.size := ⟨_, rfl⟩
  obtain ⟨bb, hbb⟩ : ∃ b, b = w7.heap.size := ⟨_, rfl⟩
  rw [← hkb] at bK8 hk7 ⊢
  rw [← hbb] at bB hk8 hk7 ⊢
  have hne1 : ∀ k, some k = v6.ownBlock → k < kb := fun k hk => by rw [hkb]; exact (own6.lt k hk.symm).2
  with_reducible refine wpList_abs (fun w' => RV w' (some ⟨w8.heap.size, 0, none⟩) (fl EvtR.cells [ePurge tk kb, eSet tk bb, eCrash tk]) ∧ Below w8.heap.size w8 w') ?_ ?_
  · exact ⟨RV.new w8 (fl EvtR.cells [ePurge tk kb, eSet tk bb, eCrash tk]) 45 (0, 0), below_new w8 (.cells (fl EvtR.cells [ePurge tk kb, eSet tk bb, eCrash tk]).toArray 45)⟩
  rintro w9 ⟨rv9, d9⟩
  have B9 := B8.trans (d9.mono B8.size)
  have own9 := own_below own8 d9 (fun k hk => (own8.lt k hk).2)
  have bK9 := bK8.below d9 bK8.lt
  have bB9 := bB.below d9
  have hs9 : w8.heap.size ≤ w9.heap.size := d9.size
  have l357 : (fl EvtR.cells [ePurge tk kb, eSet tk bb, eCrash tk]).length = 3 * 57 := by rw [fl_len EvtR.cells_len]; rfl
  with_reducible refine wpList_append_rv el_event (by kernel_rfl) (.tmp 59) (.tmp 70) rfl W.heap.size v6 k (fl EvtR.cells (l.take k)) (by kernel_rfl) own9 (some ⟨w8.heap.size, 0, none⟩) 3 3 (fl EvtR.cells [ePurge tk kb, eSet tk bb, eCrash tk]) (by kernel_rfl) l357 rv9 (fl_oneCell EvtR.cells_one _) ?f2 ?f3 ?f4 ?_
  case f2 => unfold maxLen; omega
  case f3 => omega
  case f4 => exact B9.size
  intro v10 w10 own10 gr10 hv10
  have B10 : Below W.heap.size W w10 := below_grownS B9 gr10 (fun k hk => (own9.lt k hk).1)
  have bK10 := blk_grown bK9 gr10 (fun q => by have := hne1 _ q; omega)
  have bB10 := bB9.grown gr10 (fun q => by have := hne1 _ q; omega)
  have hne2 : ∀ k, some k = v10.ownBlock → k ≠ kb ∧ k ≠ bb := fun k hk => by
    rcases hv10 with h | h
    · rw [h] at hk
      have := hne1 k hk
      omega
    · rw [h] at hk
      injection hk with hk
      omega
  clear hv10 gr10 own9 own8 own7 own6 rv9 l357 bB9 bK9 B9 B8 B7 B6 hne1 hkb hbb d7 d8 d9 bB bK8 bK hk7 hk8 hs9
  go_upto_region 19 with fail
  have rt := r0.rv.below B10
  have rt10 := rt.tail57 r0.le k
  have kl : k ≤ l.length := Nat.le_trans kn hn
  have kli : (k : Int) ≤ (l.length : Int) := by omega
  clear rt
  with_reducible refine wp_region_lit ?_
  with_reducible refine wpList_cutAt 4 ?_
  simp only [List.take_succ_cons, List.take_zero, List.drop_succ_cons, List.drop_zero]
  go_wp2_with fail
  with_reducible refine CutQ.go_ ?_
  have ld57 : (fl EvtR.cells (l.drop k)).length = (l.length - k) * 57 := by rw [fl_len EvtR.cells_len, List.length_drop]
  with_reducible refine wpList_append_rv el_event (by kernel_rfl) (.tmp 72) (.tmp 75) rfl W.heap.size v10 (k + 3) _ (by kernel_rfl) own10 (tailS A c k 57) (l.length - k) (c - k) (fl EvtR.cells (l.drop k)) (by kernel_rfl) ld57 rt10 (fl_oneCell EvtR.cells_one _) ?f2 ?f3 ?f4 ?_
  case f2 => unfold maxLen; omega
  case f3 => omega
  case f4 => exact B10.size
  intro v11 w11 own11 gr11 _
  have B11 : Below W.heap.size W w11 := below_grownS B10 gr11 (fun k hk => (own10.lt k hk).1)
  have bK11 := blk_grown bK10 gr11 (fun q => (hne2 _ q).1 rfl)
  have bB11 := bB10.grown gr11 (fun q => (hne2 _ q).2 rfl)
  obtain ⟨made, hmade⟩ : ∃ m, m = l.take k ++ [ePurge tk kb, eSet tk bb, eCrash tk] ++ l.drop k := ⟨_, rfl⟩
  have hml : made.length = l.length + 3 := by
    rw [hmade, List.length_append, List.length_append, hlk, List.length_drop]
    show k + 3 + (l.length - k) = _
    omega
  have own12 : w11.ownsRow W.heap.size 45 57 v11 made.length (fl EvtR.cells made) := by
    rw [hml, hmade, fl_append, fl_append]
    rw [show k + 3 + (l.length - k) = l.length + 3 by omega] at own11
    exact own11
  obtain ⟨A', c', hv', hnc, hcm⟩ := own_form own12
  subst hv'
  have om : EvsOK w11 A' made c' := by
    refine ⟨(RVF.of_own (F := fun _ => False) own12 (fun _ h => h.elim)).rv, hnc, hcm, fun e he => ?_⟩
    rw [hmade] at he
    rcases List.mem_append.1 he with he | he
    · rcases List.mem_append.1 he with he | he
      · exact (r0.ok e (List.mem_of_mem_take he)).below B11
      · rcases List.mem_cons.1 he with rfl | he
        · exact ePurge_ok tkI bK11
        rcases List.mem_cons.1 he with rfl | he
        · exact eSet_ok tkI bB11
        rw [List.mem_singleton.1 he]
        exact eCrash_ok tkI
    · exact (r0.ok e (List.mem_of_mem_drop he)).below B11
  have obm : ∀ e ∈ made, e.object.length ≤ 9223372036854775807 := fun e he => by
    rw [hmade] at he
    rcases List.mem_append.1 he with he | he
    · rcases List.mem_append.1 he with he | he
      · exact hob.out e (List.mem_of_mem_take he)
      · rcases List.mem_cons.1 he with rfl | he
        · exact Nat.zero_le _
        rcases List.mem_cons.1 he with rfl | he
        · show (9 : Nat) ≤ _; omega
        rw [List.mem_singleton.1 he]
        exact Nat.zero_le _
    · exact hob.out e (List.mem_of_mem_drop he)
  have hma : Hid (absL made = (absL l).take k ++ [evPurge tk, evSet tk, evCrash tk] ++ (absL l).drop k) := Lib.hid (by
    rw [hmade]
    unfold absL
    rw [List.map_append, List.map_append, List.map_take, List.map_drop]
    rfl)
  replace obm := Lib.hid obm
  clear hmade own12 own11 own10 gr11 bK11 bB11 bK10 bB10 hne2 rt10 ld57 kli tkI hnc hcm B10
  go_upto_region 20 with fail
  go_wp2_with fail
  have lmax : l.length ≤ 9223372036854775807 := by omega
  go_loopw [79] (fun i wr => ∃ m : Nat, m ≤ l.length ∧ i = .int .i64 (m : Int) ∧ Hid (∀ e ∈ (absL l).take m, e.object ≠ noT ∧ e.node ≠ noN) ∧ Below w11.heap.size w11 wr) (fun i _ => l.length - (intOf i).toNat)
  case atStart => exact ⟨0, by omega, rfl, Lib.hid (by simp), Below.refl _ _⟩
  case round =>
  obtain ⟨m, hm, rfl, hN, d12⟩ := hrel
  have B12 := B11.trans (d12.mono B11.size)
  by_cases hlt : m < l.length
  case neg =>
    obtain rfl : m = l.length := by omega
    have dec : decide ((l.length : Int) < (l.length : Int)) = false := decide_eq_false (by omega)
    have hN2 := hN.out
    rw [List.take_of_length_le (by rw [absL_len]; exact Nat.le_refl _)] at hN2
    have om12 := om.below d12
    have PM := pright_calls wr (hT.below B12) A' c' made om12 obm.out (by omega)
    have hBM := begins_more (absL l) k (by rw [absL_len]; exact kl) hgk hN2
    rw [← htk.out, ← hma.out, ← hrr.out] at hBM
    rw [hBM] at PM
    clear hBM hN2 hN om om12 hma obm d12 B11 htk hgk hrr hok hob
    rw [hml] at PM
    by_cases hb : rr = -1
    · rw [if_pos hb] at PM
      subst hb
      have d1 : decide ((k : Int) ≤ -1) = false := decide_eq_false (by omega)
      go_wp2_with (go_at_call 20; refine PM.mono ?_; rintro _ w13 ⟨rfl, d13⟩; clear PM)
      go_ret
      exact ⟨rfl, B12.trans (d13.mono B12.size)⟩
    · rw [if_neg hb] at PM
      have hb2 : (k : Int) ≤ rr ∧ rr ≤ 40 := by omega
      have d1 : decide ((k : Int) ≤ rr) = true := decide_eq_true hb2.1
      have e1 : (rr + 3 == rr + 3) = true := beq_iff_eq.2 rfl
      have hw3 : wrap64 (rr + 3) = rr + 3 := by unfold wrap64; omega
      clear hcase hb
      go_wp2_with (go_at_call 20; refine PM.mono ?_; rintro _ w13 ⟨rfl, d13⟩; clear PM)
      go_ret
      exact ⟨rfl, B12.trans (d13.mono B12.size)⟩
  have dec : decide ((m : Int) < (l.length : Int)) = true := decide_eq_true (by omega)
  have dec' : decide (m < l.length) = true := decide_eq_true hlt
  obtain ⟨b, off, rfl, hbs, hc⟩ := evt_at (r0.rv.below B12) hlt
  have ht := absL_take hlt
  generalize l[m] = x at *
  have hN1 : (x.object ≠ noT ∧ x.node ≠ noN) → ∀ e ∈ (absL l).take (m + 1), e.object ≠ noT ∧ e.node ≠ noN := fun q e he => by
    rw [ht] at he
    rcases List.mem_append.1 he with he | he
    · exact hN.out e he
    · rw [List.mem_singleton.1 he]; exact q
  clear ht hN
  replace hN1 := Lib.hid hN1
  go_upto_region 22 with fail
  with_reducible refine wp_region_lit ?_
  with_reducible refine wpList_cutAt 1 ?_
  simp only [List.take_succ_cons, List.take_zero, List.drop_succ_cons, List.drop_zero]
  go_wp2_with fail
  with_reducible refine CutQ.go_ ?_
  with_reducible refine wpList_load_mid rfl 45 (.tmp 81) rfl b (off + m * 57) (by kernel_rfl) x.cells _ hc Tryz.underlying45 (by kernel_rfl) (by kernel_rfl) ?_
  go_frame
  with_reducible refine wpList_cutAt 1 ?_
  simp only [List.take_succ_cons, List.take_zero, List.drop_succ_cons, List.drop_zero]
  repeat (first | go_values | go_skip | go_guarded | go_step | go_upon)
  with_reducible refine CutQ.go_ ?_
  with_reducible refine wpList_abs (fun w' => Blk w' wr.heap.size 45 zEvtR.cells.toArray ∧ Below wr.heap.size wr w') ?_ ?_
  · exact ⟨Blk.new wr 45 zEvtR.cells.toArray, below_new wr (.cells zEvtR.cells.toArray 45)⟩
  rintro wA0 ⟨bE0, dE0⟩
  have bE' : wA0.heap[wr.heap.size]? = some (Obj.cells zEvtR.cells.toArray 45) := bE0
  with_reducible refine wpList_store_row rfl 45 (.tmp 11) (.tmp 82) rfl wr.heap.size x.cells.toArray (by kernel_rfl) (by kernel_rfl) 45 zEvtR.cells.toArray bE' (by kernel_rfl) (by kernel_rfl) (by kernel_rfl) (wpList_nil ?_)
  have bE := bE0.setRow_ x.cells.toArray
  have dE := below_setRow dE0 (Nat.le_refl _) x.cells.toArray
  revert bE dE
  generalize wA0.setRow wr.heap.size x.cells.toArray = wA
  clear bE' bE0 dE0 wA0
  intro bE dE
  simp only [Act.put]
  have BA := B12.trans (dE.mono B12.size)
  have dA := d12.trans (dE.mono d12.size)
  have f4 : wA.cell? ⟨wr.heap.size, 4, none⟩ = some (.string (bstr x.object)) := bE.at_ rfl
  have f2 : wA.cell? ⟨wr.heap.size, 2, none⟩ = some (.int .i64 x.node) := bE.at_ rfl
  clear hc hbs dE B12 d12
  obtain ⟨so, hso⟩ : ∃ q, q = ((bstr x.object).toList == [47, 110, 111, 98, 111, 100, 121, 39, 115]) := ⟨_, rfl⟩
  have hso1 : Hid (x.object = noT → so = true) := Lib.hid fun q => by rw [hso, bstr_list]; exact beq_iff_eq.2 q
  replace hso := hso.symm
  cases so
  · by_cases hnn : x.node = noN
    · have d2 : (x.node == 549755813888) = true := beq_iff_eq.2 hnn
      clear hnn
      go_wp2_with fail
      go_ret
      exact ⟨rfl, BA⟩
    · have d2 : (x.node == 549755813888) = false := beq_eq_false_iff_ne.2 hnn
      have hN2 := Lib.hid (hN1.out ⟨fun q => Bool.false_ne_true (hso1.out q), hnn⟩)
      clear hnn hN1 hso1
      go_wp2_with fail
      go_roundw
      case rel => exact ⟨m + 1, by omega, by go_num, hN2, dA⟩
      case measure => simp [intOf]; omega
  · clear hso1 hN1
    go_wp2_with fail
    go_ret
    exact ⟨rfl, BA⟩
end Go.Proofs.YtiokbebodblhaaaGreatDoor
