/-
  Walk: an event read. Printed by evgen.py.
-/
import Derived.Test.YtiokbebodblhaaaGreatDoorTRq
namespace Go.Proofs.YtiokbebodblhaaaGreatDoor
open Go.RowKit TraceP
attribute [local go_sem] Row.val

set_option maxRecDepth 100000 in
set_option maxHeartbeats 6400000 in
theorem revt_calls (w0 w : World) (g : Nat) (F : Nat → Prop) (s : RdS) (H : RdOK w0 w g F s) (hS : Std w0) :
    Calls Tryz.prog 43 #[.pointer (some ⟨g, 0, none⟩)] w fun e w' => ∃ x : EvtR, e = .returned (.agg x.cells.toArray) ∧ x.abs = (pEvt s).1 ∧ EvtN w.heap.size w' x ∧ Reads w0 g F (pEvt s).2 w w' := by
  have hg := H.lt
  have H0 := (Hold.start H).alloc (.cells zEvtR.cells.toArray 45)
  have bR := Blk.new w 45 zEvtR.cells.toArray
  obtain ⟨a0, s1, q0⟩ : ∃ a s', pNum s = (a, s') := ⟨_, _, rfl⟩
  go_enter Tryz.func43, Tryz.ntmps43
  unfold Tryz.f43
  go_step
  go_step
  with_reducible refine wp_region_lit ?_
  with_reducible refine wpList_cutAt 1 ?_
  simp only [List.take_succ_cons, List.take_zero, List.drop_succ_cons, List.drop_zero]
  repeat (first | go_values | go_skip | go_guarded | go_step | go_upon)
  with_reducible refine CutQ.go_ (wpList_nil ?_)
  go_step
  go_step
  go_step
  go_step
  with_reducible refine wpList_abs (fun w' => Hold w0 w g F s w' ∧ Blk w' w.heap.size 45 zEvtR.cells.toArray) ?_ ?_
  · exact ⟨H0, bR⟩
  clear H0 bR
  rintro wz ⟨H0, bR⟩
  have C := rnum_calls w0 wz g _ s H0.ok hS
  rw [q0] at C
  replace q0 := Lib.hid q0
  with_reducible refine wpList_cutAt 2 ?_
  simp only [List.take_succ_cons, List.take_zero, List.drop_succ_cons, List.drop_zero]
  go_wp2_with (go_at_call 79; refine C.mono ?_; rintro _ w1 ⟨rfl, R1⟩; have H1 := H0.call R1; have bR1 := bR.rd R1 (by omega); clear R1 H0 bR C)
  with_reducible refine CutQ.go_ ?_
  with_reducible refine wpList_build_eq rfl 45 _ rfl (ev 0 a0 0 0).cells.toArray (by kernel_rfl) ?_
  go_frame
  with_reducible refine wpList_cutAt 1 ?_
  simp only [List.take_succ_cons, List.take_zero, List.drop_succ_cons, List.drop_zero]
  repeat (first | go_values | go_skip | go_guarded | go_step | go_upon)
  with_reducible refine CutQ.go_ ?_
  have hgb : g < w1.heap.size := H1.ok.lt
  have hwb : w.heap.size < w1.heap.size := bR1.lt
  have bR2 := bR1.alloc (.cells zEvtR.cells.toArray 45)
  have h0 := Holds.start H1.ok 45 zEvtR.cells.toArray
  with_reducible refine wpList_abs (fun w' => Holds w0 (w1.alloc (.cells zEvtR.cells.toArray 45)) g w1.heap.size (fun k => F k ∨ w.heap.size ≤ k) 45 s1 zEvtR.cells.toArray w') ?_ ?_
  · exact h0
  clear h0 bR1
  rintro v1 h0
  have bX' : v1.heap[w1.heap.size]? = some (Obj.cells zEvtR.cells.toArray 45) := h0.blk
  with_reducible refine wpList_store_row rfl 45 (.tmp 3) (.tmp 8) rfl w1.heap.size (ev 0 a0 0 0).cells.toArray (by kernel_rfl) (by kernel_rfl) 45 zEvtR.cells.toArray bX' (by kernel_rfl) (by kernel_rfl) (by kernel_rfl) (wpList_nil ?_)
  have h1 := h0.ownRow (ev 0 a0 0 0).cells.toArray
  revert h1
  generalize v1.setRow w1.heap.size (ev 0 a0 0 0).cells.toArray = v1'
  clear h0 bX' v1
  intro h0
  simp only [Act.put]
  obtain ⟨v1, rfl⟩ : ∃ x, x = v1' := ⟨_, rfl⟩
  go_step
  go_step
  obtain ⟨a1, s2, q1⟩ : ∃ a s', pWord s1 = (a, s') := ⟨_, _, rfl⟩
  have C := rword_calls w0 v1 g _ s1 h0.ok
  rw [q1] at C
  replace q1 := Lib.hid q1
  go_wp2_with (go_at_call 80; refine C.mono ?_; rintro _ w2 ⟨rfl, R⟩; have h1 := h0.call R; clear h0 R C)
  go_loopw [11] (fun i wr => ∃ k : Nat, k ≤ 17 ∧ i = .int .i64 (k : Int) ∧ Holds w0 (w1.alloc (.cells zEvtR.cells.toArray 45)) g w1.heap.size (fun k => F k ∨ w.heap.size ≤ k) 45 s2 (ev (kupto a1 k) a0 0 0).cells.toArray wr) (fun i _ => 17 - (intOf i).toNat)
  case atStart => exact ⟨0, by omega, rfl, h1⟩
  case round =>
    clear h1
    obtain ⟨k, hk, rfl, h0⟩ := hrel
    by_cases hlt : k < 17
    · have dec : decide ((k : Int) < 17) = true := decide_eq_true (by omega)
      by_cases h0k : k = 0
      · subst h0k
        have d0 : decide ((0 : Int) < 0) = false := rfl
        have d1 : decide ((0 : Int) < 17) = true := rfl
        go_wp2_with fail
        go_roundw
        case rel => exact ⟨1, by omega, rfl, h0⟩
        case measure => simp [intOf]
      · have d0 : decide ((0 : Int) < (k : Int)) = true := decide_eq_true (by omega)
        have hS1 := h0.std hS
        have hq : ((bstr (kindT k)).toList == (bstr a1).toList) = decide (kindT k = a1) := by rw [bstr_list, bstr_list]; exact Bool.eq_iff_iff.2 (by simp)
        by_cases hw : kindT k = a1
        · have ek : kupto a1 (k + 1) = k := by show (if 1 ≤ k ∧ kindT k = a1 then k else _) = k; rw [if_pos ⟨by omega, hw⟩]
          rw [decide_eq_true hw] at hq
          have k0 := h0.at_ (i := 0) (v := .int .i64 (kupto a1 k)) rfl
          have f0 := h0.blk.frozen 0
          replace hw := Lib.hid hw
          go_wp2_with (go_at_call 61; refine (name_calls _ k rfl (by omega) wr hS1).mono ?_; rintro _ w3 ⟨rfl, rfl⟩)
          go_roundw
          case rel => exact ⟨k + 1, by omega, by go_num, by rw [ek]; exact (h0.set 0 (.int .i64 (k : Int))).to (by kernel_rfl)⟩
          case measure => simp [intOf]; omega
        · have ek : kupto a1 (k + 1) = kupto a1 k := by show (if 1 ≤ k ∧ kindT k = a1 then k else _) = _; rw [if_neg (fun h => hw h.2)]
          rw [decide_eq_false hw] at hq
          replace hw := Lib.hid hw
          go_wp2_with (go_at_call 61; refine (name_calls _ k rfl (by omega) wr hS1).mono ?_; rintro _ w3 ⟨rfl, rfl⟩)
          go_roundw
          case rel => exact ⟨k + 1, by omega, by go_num, by rw [ek]; exact h0⟩
          case measure => simp [intOf]; omega
    · obtain rfl : k = 17 := by omega
      have dec : decide ((17 : Int) < 17) = false := rfl
      rw [kupto_of] at h0
      obtain ⟨kk, hkk⟩ : ∃ x, kindOf a1 = x := ⟨_, rfl⟩
      have hk16 := kindOf_le a1
      rw [hkk] at h0 hk16
      replace hkk := Lib.hid hkk
      obtain ⟨v2, rfl⟩ : ∃ x, x = wr := ⟨_, rfl⟩
      go_upto_region 9 with (fail)
      have K17 : kk = 0 ∨ kk = 1 ∨ kk = 2 ∨ kk = 3 ∨ kk = 4 ∨ kk = 5 ∨ kk = 6 ∨ kk = 7 ∨ kk = 8 ∨ kk = 9 ∨ kk = 10 ∨ kk = 11 ∨ kk = 12 ∨ kk = 13 ∨ kk = 14 ∨ kk = 15 ∨ kk = 16 := by omega
      rcases K17 with hk | hk | hk | hk | hk | hk | hk | hk | hk | hk | hk | hk | hk | hk | hk | hk | hk
      · -- kind 0
        subst hk
        have h0 : Holds w0 (w1.alloc (.cells zEvtR.cells.toArray 45)) g w1.heap.size (fun k => F k ∨ w.heap.size ≤ k) 45 s2 (ev 0 a0 0 0).cells.toArray v2 := h0
        have x0 := h0.at_ (i := 0) (v := .int .i64 0) rfl
        go_upto_region 41 with (fail)
        clear x0
        have hN : EvtN (w1.heap.size + 1) v2 ((ev 0 a0 0 0) : EvtR) := ⟨RowN.none_ _ _ _, RowN.none_ _ _ _, RowN.none_ _ _ _, RowN.none_ _ _ _, RowN.none_ _ _ _, RowN.none_ _ _ _, RowN.none_ _ _ _, RowN.none_ _ _ _, RowN.none_ _ _ _⟩
        have e : pEvt s = (((ev 0 a0 0 0) : EvtR).abs, s2) := by unfold pEvt; simp only [q0.out, q1.out, hkk.out]; simp [pNode, pWho, pBody]; rfl
        have hR := h0.older bR2 (by omega) (by omega)
        have hX := h0.blk
        have hR' : v2.heap[w.heap.size]? = some (Obj.cells zEvtR.cells.toArray 45) := hR
        have hX' : v2.heap[w1.heap.size]? = some (Obj.cells ((ev 0 a0 0 0) : EvtR).cells.toArray 45) := hX
        with_reducible refine wp_region_lit ?_
        with_reducible refine wpList_load_row rfl 45 (.tmp 3) rfl w1.heap.size (by kernel_rfl) 45 ((ev 0 a0 0 0) : EvtR).cells.toArray (0, 0) _ hX' Tryz.underlying45 (by kernel_rfl) (by kernel_rfl) ?_
        go_frame
        with_reducible refine wpList_store_row rfl 45 (.tmp 2) (.tmp 106) rfl w.heap.size ((ev 0 a0 0 0) : EvtR).cells.toArray (by kernel_rfl) (by kernel_rfl) 45 zEvtR.cells.toArray hR' (by kernel_rfl) (by kernel_rfl) (by kernel_rfl) (wpList_nil ?_)
        have bT : (v2.setRow (w.heap.size) ((ev 0 a0 0 0) : EvtR).cells.toArray).heap[w.heap.size]? = some (Obj.cells ((ev 0 a0 0 0) : EvtR).cells.toArray 45) := hR.setRow_ _
        simp only [Act.put]
        repeat go_step
        (try simp only [Exit.inBlock, Exit.then])
        refine bodyPost_ret (results_cell_row rfl _ _ (w.heap.size) 45 ((ev 0 a0 0 0) : EvtR).cells.toArray (0, 0) _ (by kernel_rfl) bT Tryz.underlying45 (by kernel_rfl) (by kernel_rfl)) rfl ?_
        have hH := (H1.call h0.done).setRow (Nat.le_refl w.heap.size) ((ev 0 a0 0 0) : EvtR).cells.toArray
        rw [e]
        exact ⟨((ev 0 a0 0 0) : EvtR), rfl, rfl, (hN.setRow (by omega) _).older (by omega), hH.done⟩
      · -- kind 1
        subst hk
        have h0 : Holds w0 (w1.alloc (.cells zEvtR.cells.toArray 45)) g w1.heap.size (fun k => F k ∨ w.heap.size ≤ k) 45 s2 (ev 1 a0 0 0).cells.toArray v2 := h0
        obtain ⟨a2, s3, q2⟩ : ∃ a s', pText s2 = (a, s') := ⟨_, _, rfl⟩
        have x0 := h0.at_ (i := 0) (v := .int .i64 1) rfl
        go_upto_region 15 with (fail)
        clear x0
        have C := rtext_calls w0 v2 g _ s2 h0.ok hS
        rw [q2] at C
        replace q2 := Lib.hid q2
        go_upto_region 16 with (go_at_call 82; refine C.mono ?_; rintro _ w2 ⟨rfl, R⟩; have h1 := h0.call R; have k0 := h1.at_ (i := 4) (v := .string ⟨#[]⟩) rfl; have f0 := h1.blk.frozen 4; have y0 := h1.at_ (i := 0) (v := .int .i64 1) rfl; clear h0 R C)
        with_reducible refine code_abs (fun w' => Holds w0 (w1.alloc (.cells zEvtR.cells.toArray 45)) g w1.heap.size (fun k => F k ∨ w.heap.size ≤ k) 45 s3 ({ ev 1 a0 0 0 with object := a2 } : EvtR).cells.toArray w') ?_ ?_
        · exact (h1.set 4 (.string (bstr a2))).to (by kernel_rfl)
        clear h1 y0 k0 f0
        rintro v3 h0
        obtain ⟨a3, s4, q3⟩ : ∃ a s', pMet s3 = (a, s') := ⟨_, _, rfl⟩
        have x0 := h0.at_ (i := 0) (v := .int .i64 1) rfl
        go_upto_region 16 with (fail)
        clear x0
        have C := rmet_calls w0 v3 g _ s3 h0.ok hS
        rw [q3] at C
        replace q3 := Lib.hid q3
        with_reducible refine wp_region_lit ?_
        with_reducible refine wpList_cutAt 3 ?_
        simp only [List.take_succ_cons, List.take_zero, List.drop_succ_cons, List.drop_zero]
        go_wp2_with (go_at_call 83; refine C.mono ?_; rintro _ w2 ⟨r3, rfl, l3, m3, R⟩; have h1 := h0.call R; replace l3 := Lib.hid l3; have n3 := m3.older (B' := w1.heap.size + 1) (by have := h0.size; omega); clear h0 R C m3)
        with_reducible refine CutQ.go_ ?_
        with_reducible refine wpList_store_mid rfl 32 (.tmp 46) (.tmp 45) rfl w1.heap.size 16 r3.cells.toArray (by kernel_rfl) (by kernel_rfl) (h1.blk.there 16 r3.cells.toArray.size (of_decide_eq_true (by kernel_rfl))) (by kernel_rfl) (by kernel_rfl) (wpList_nil ?_)
        have h2 := (h1.mid r3.cells 16).to (cs' := ({ ev 1 a0 0 0 with object := a2, met := r3 } : EvtR).cells.toArray) (by kernel_rfl)
        have n3 := RowN.cells (g := w1.heap.size) (o := 16) (vs := r3.cells) n3 (Nat.lt_succ_self _)
        revert h2 n3
        generalize w2.setCells w1.heap.size 16 r3.cells = v4
        clear h1
        intro h0 n3
        have x0 := h0.at_ (i := 0) (v := .int .i64 1) rfl
        go_upto_region 17 with (fail)
        clear x0
        obtain ⟨a4, s5, q4⟩ : ∃ a s', pText s4 = (a, s') := ⟨_, _, rfl⟩
        have x0 := h0.at_ (i := 0) (v := .int .i64 1) rfl
        go_upto_region 17 with (fail)
        clear x0
        have C := rbytesR_calls w0 v4 g _ s4 h0.ok hS
        rw [q4] at C
        replace q4 := Lib.hid q4
        go_upto_region 41 with (go_at_call 84; refine C.mono ?_; rintro _ w2 ⟨r4, rfl, l4, m4, R⟩; have h1 := h0.call R; have n3 := n3.kept R.kept (fun k hk => by omega); replace l4 := Lib.hid l4; have n4 := m4.older (B' := w1.heap.size + 1) (by have := h0.size; omega); have k0 := h1.at_ (i := 53) (v := .slice none 0 0) rfl; have f0 := h1.blk.frozen 53; have y0 := h1.at_ (i := 0) (v := .int .i64 1) rfl; clear h0 R C m4)
        with_reducible refine code_abs (fun w' => Holds w0 (w1.alloc (.cells zEvtR.cells.toArray 45)) g w1.heap.size (fun k => F k ∨ w.heap.size ≤ k) 45 s5 ({ ev 1 a0 0 0 with object := a2, met := r3, bytes := r4 } : EvtR).cells.toArray w' ∧ RowN txC (w1.heap.size + 1) w' r3.keys ∧ RowN byC (w1.heap.size + 1) w' r4) ?_ ?_
        · exact ⟨(h1.set 53 (.slice r4.A r4.l.length r4.cap)).to (by kernel_rfl), (n3.cell (p := ⟨w1.heap.size, 53, none⟩) (Nat.lt_succ_self _) (.slice r4.A r4.l.length r4.cap)), (n4.cell (p := ⟨w1.heap.size, 53, none⟩) (Nat.lt_succ_self _) (.slice r4.A r4.l.length r4.cap))⟩
        clear h1 y0 k0 f0 n3 n4
        rintro v5 ⟨h0, n3, n4⟩
        have hN : EvtN (w1.heap.size + 1) v5 ({ ev 1 a0 0 0 with object := a2, met := r3, bytes := r4 } : EvtR) := ⟨RowN.none_ _ _ _, RowN.none_ _ _ _, RowN.none_ _ _ _, n3, RowN.none_ _ _ _, RowN.none_ _ _ _, RowN.none_ _ _ _, n4, RowN.none_ _ _ _⟩
        have e : pEvt s = (({ ev 1 a0 0 0 with object := a2, met := r3, bytes := r4 } : EvtR).abs, s5) := by unfold pEvt; simp only [q0.out, q1.out, hkk.out]; simp [pNode, pWho, pBody, q2.out, q3.out, q4.out]; simp only [ev, EvtR.abs, ← l3.out, ← l4.out]; rfl
        have hR := h0.older bR2 (by omega) (by omega)
        have hX := h0.blk
        have hR' : v5.heap[w.heap.size]? = some (Obj.cells zEvtR.cells.toArray 45) := hR
        have hX' : v5.heap[w1.heap.size]? = some (Obj.cells ({ ev 1 a0 0 0 with object := a2, met := r3, bytes := r4 } : EvtR).cells.toArray 45) := hX
        with_reducible refine wp_region_lit ?_
        with_reducible refine wpList_load_row rfl 45 (.tmp 3) rfl w1.heap.size (by kernel_rfl) 45 ({ ev 1 a0 0 0 with object := a2, met := r3, bytes := r4 } : EvtR).cells.toArray (0, 0) _ hX' Tryz.underlying45 (by kernel_rfl) (by kernel_rfl) ?_
        go_frame
        with_reducible refine wpList_store_row rfl 45 (.tmp 2) (.tmp 106) rfl w.heap.size ({ ev 1 a0 0 0 with object := a2, met := r3, bytes := r4 } : EvtR).cells.toArray (by kernel_rfl) (by kernel_rfl) 45 zEvtR.cells.toArray hR' (by kernel_rfl) (by kernel_rfl) (by kernel_rfl) (wpList_nil ?_)
        have bT : (v5.setRow (w.heap.size) ({ ev 1 a0 0 0 with object := a2, met := r3, bytes := r4 } : EvtR).cells.toArray).heap[w.heap.size]? = some (Obj.cells ({ ev 1 a0 0 0 with object := a2, met := r3, bytes := r4 } : EvtR).cells.toArray 45) := hR.setRow_ _
        simp only [Act.put]
        repeat go_step
        (try simp only [Exit.inBlock, Exit.then])
        refine bodyPost_ret (results_cell_row rfl _ _ (w.heap.size) 45 ({ ev 1 a0 0 0 with object := a2, met := r3, bytes := r4 } : EvtR).cells.toArray (0, 0) _ (by kernel_rfl) bT Tryz.underlying45 (by kernel_rfl) (by kernel_rfl)) rfl ?_
        have hH := (H1.call h0.done).setRow (Nat.le_refl w.heap.size) ({ ev 1 a0 0 0 with object := a2, met := r3, bytes := r4 } : EvtR).cells.toArray
        rw [e]
        exact ⟨({ ev 1 a0 0 0 with object := a2, met := r3, bytes := r4 } : EvtR), rfl, rfl, (hN.setRow (by omega) _).older (by omega), hH.done⟩
      · -- kind 2
        subst hk
        have h0 : Holds w0 (w1.alloc (.cells zEvtR.cells.toArray 45)) g w1.heap.size (fun k => F k ∨ w.heap.size ≤ k) 45 s2 (ev 2 a0 0 0).cells.toArray v2 := h0
        obtain ⟨a2, s3, q2⟩ : ∃ a s', pText s2 = (a, s') := ⟨_, _, rfl⟩
        have x0 := h0.at_ (i := 0) (v := .int .i64 2) rfl
        go_upto_region 19 with (fail)
        clear x0
        have C := rtext_calls w0 v2 g _ s2 h0.ok hS
        rw [q2] at C
        replace q2 := Lib.hid q2
        go_upto_region 20 with (go_at_call 82; refine C.mono ?_; rintro _ w2 ⟨rfl, R⟩; have h1 := h0.call R; have k0 := h1.at_ (i := 4) (v := .string ⟨#[]⟩) rfl; have f0 := h1.blk.frozen 4; have y0 := h1.at_ (i := 0) (v := .int .i64 2) rfl; clear h0 R C)
        with_reducible refine code_abs (fun w' => Holds w0 (w1.alloc (.cells zEvtR.cells.toArray 45)) g w1.heap.size (fun k => F k ∨ w.heap.size ≤ k) 45 s3 ({ ev 2 a0 0 0 with object := a2 } : EvtR).cells.toArray w') ?_ ?_
        · exact (h1.set 4 (.string (bstr a2))).to (by kernel_rfl)
        clear h1 y0 k0 f0
        rintro v3 h0
        obtain ⟨a3, s4, q3⟩ : ∃ a s', pText s3 = (a, s') := ⟨_, _, rfl⟩
        have x0 := h0.at_ (i := 0) (v := .int .i64 2) rfl
        go_upto_region 20 with (fail)
        clear x0
        have C := rbytesR_calls w0 v3 g _ s3 h0.ok hS
        rw [q3] at C
        replace q3 := Lib.hid q3
        go_upto_region 41 with (go_at_call 84; refine C.mono ?_; rintro _ w2 ⟨r3, rfl, l3, m3, R⟩; have h1 := h0.call R; replace l3 := Lib.hid l3; have n3 := m3.older (B' := w1.heap.size + 1) (by have := h0.size; omega); have k0 := h1.at_ (i := 53) (v := .slice none 0 0) rfl; have f0 := h1.blk.frozen 53; have y0 := h1.at_ (i := 0) (v := .int .i64 2) rfl; clear h0 R C m3)
        with_reducible refine code_abs (fun w' => Holds w0 (w1.alloc (.cells zEvtR.cells.toArray 45)) g w1.heap.size (fun k => F k ∨ w.heap.size ≤ k) 45 s4 ({ ev 2 a0 0 0 with object := a2, bytes := r3 } : EvtR).cells.toArray w' ∧ RowN byC (w1.heap.size + 1) w' r3) ?_ ?_
        · exact ⟨(h1.set 53 (.slice r3.A r3.l.length r3.cap)).to (by kernel_rfl), (n3.cell (p := ⟨w1.heap.size, 53, none⟩) (Nat.lt_succ_self _) (.slice r3.A r3.l.length r3.cap))⟩
        clear h1 y0 k0 f0 n3
        rintro v4 ⟨h0, n3⟩
        have hN : EvtN (w1.heap.size + 1) v4 ({ ev 2 a0 0 0 with object := a2, bytes := r3 } : EvtR) := ⟨RowN.none_ _ _ _, RowN.none_ _ _ _, RowN.none_ _ _ _, RowN.none_ _ _ _, RowN.none_ _ _ _, RowN.none_ _ _ _, RowN.none_ _ _ _, n3, RowN.none_ _ _ _⟩
        have e : pEvt s = (({ ev 2 a0 0 0 with object := a2, bytes := r3 } : EvtR).abs, s4) := by unfold pEvt; simp only [q0.out, q1.out, hkk.out]; simp [pNode, pWho, pBody, q2.out, q3.out]; simp only [ev, EvtR.abs, ← l3.out]; rfl
        have hR := h0.older bR2 (by omega) (by omega)
        have hX := h0.blk
        have hR' : v4.heap[w.heap.size]? = some (Obj.cells zEvtR.cells.toArray 45) := hR
        have hX' : v4.heap[w1.heap.size]? = some (Obj.cells ({ ev 2 a0 0 0 with object := a2, bytes := r3 } : EvtR).cells.toArray 45) := hX
        with_reducible refine wp_region_lit ?_
        with_reducible refine wpList_load_row rfl 45 (.tmp 3) rfl w1.heap.size (by kernel_rfl) 45 ({ ev 2 a0 0 0 with object := a2, bytes := r3 } : EvtR).cells.toArray (0, 0) _ hX' Tryz.underlying45 (by kernel_rfl) (by kernel_rfl) ?_
        go_frame
        with_reducible refine wpList_store_row rfl 45 (.tmp 2) (.tmp 106) rfl w.heap.size ({ ev 2 a0 0 0 with object := a2, bytes := r3 } : EvtR).cells.toArray (by kernel_rfl) (by kernel_rfl) 45 zEvtR.cells.toArray hR' (by kernel_rfl) (by kernel_rfl) (by kernel_rfl) (wpList_nil ?_)
        have bT : (v4.setRow (w.heap.size) ({ ev 2 a0 0 0 with object := a2, bytes := r3 } : EvtR).cells.toArray).heap[w.heap.size]? = some (Obj.cells ({ ev 2 a0 0 0 with object := a2, bytes := r3 } : EvtR).cells.toArray 45) := hR.setRow_ _
        simp only [Act.put]
        repeat go_step
        (try simp only [Exit.inBlock, Exit.then])
        refine bodyPost_ret (results_cell_row rfl _ _ (w.heap.size) 45 ({ ev 2 a0 0 0 with object := a2, bytes := r3 } : EvtR).cells.toArray (0, 0) _ (by kernel_rfl) bT Tryz.underlying45 (by kernel_rfl) (by kernel_rfl)) rfl ?_
        have hH := (H1.call h0.done).setRow (Nat.le_refl w.heap.size) ({ ev 2 a0 0 0 with object := a2, bytes := r3 } : EvtR).cells.toArray
        rw [e]
        exact ⟨({ ev 2 a0 0 0 with object := a2, bytes := r3 } : EvtR), rfl, rfl, (hN.setRow (by omega) _).older (by omega), hH.done⟩
      · -- kind 3
        subst hk
        have h0 : Holds w0 (w1.alloc (.cells zEvtR.cells.toArray 45)) g w1.heap.size (fun k => F k ∨ w.heap.size ≤ k) 45 s2 (ev 3 a0 0 0).cells.toArray v2 := h0
        obtain ⟨a2, s3, q2⟩ : ∃ a s', pText s2 = (a, s') := ⟨_, _, rfl⟩
        have x0 := h0.at_ (i := 0) (v := .int .i64 3) rfl
        go_upto_region 23 with (fail)
        clear x0
        have C := rtext_calls w0 v2 g _ s2 h0.ok hS
        rw [q2] at C
        replace q2 := Lib.hid q2
        go_upto_region 41 with (go_at_call 82; refine C.mono ?_; rintro _ w2 ⟨rfl, R⟩; have h1 := h0.call R; have k0 := h1.at_ (i := 4) (v := .string ⟨#[]⟩) rfl; have f0 := h1.blk.frozen 4; have y0 := h1.at_ (i := 0) (v := .int .i64 3) rfl; clear h0 R C)
        with_reducible refine code_abs (fun w' => Holds w0 (w1.alloc (.cells zEvtR.cells.toArray 45)) g w1.heap.size (fun k => F k ∨ w.heap.size ≤ k) 45 s3 ({ ev 3 a0 0 0 with object := a2 } : EvtR).cells.toArray w') ?_ ?_
        · exact (h1.set 4 (.string (bstr a2))).to (by kernel_rfl)
        clear h1 y0 k0 f0
        rintro v3 h0
        have hN : EvtN (w1.heap.size + 1) v3 ({ ev 3 a0 0 0 with object := a2 } : EvtR) := ⟨RowN.none_ _ _ _, RowN.none_ _ _ _, RowN.none_ _ _ _, RowN.none_ _ _ _, RowN.none_ _ _ _, RowN.none_ _ _ _, RowN.none_ _ _ _, RowN.none_ _ _ _, RowN.none_ _ _ _⟩
        have e : pEvt s = (({ ev 3 a0 0 0 with object := a2 } : EvtR).abs, s3) := by unfold pEvt; simp only [q0.out, q1.out, hkk.out]; simp [pNode, pWho, pBody, q2.out]; rfl
        have hR := h0.older bR2 (by omega) (by omega)
        have hX := h0.blk
        have hR' : v3.heap[w.heap.size]? = some (Obj.cells zEvtR.cells.toArray 45) := hR
        have hX' : v3.heap[w1.heap.size]? = some (Obj.cells ({ ev 3 a0 0 0 with object := a2 } : EvtR).cells.toArray 45) := hX
        with_reducible refine wp_region_lit ?_
        with_reducible refine wpList_load_row rfl 45 (.tmp 3) rfl w1.heap.size (by kernel_rfl) 45 ({ ev 3 a0 0 0 with object := a2 } : EvtR).cells.toArray (0, 0) _ hX' Tryz.underlying45 (by kernel_rfl) (by kernel_rfl) ?_
        go_frame
        with_reducible refine wpList_store_row rfl 45 (.tmp 2) (.tmp 106) rfl w.heap.size ({ ev 3 a0 0 0 with object := a2 } : EvtR).cells.toArray (by kernel_rfl) (by kernel_rfl) 45 zEvtR.cells.toArray hR' (by kernel_rfl) (by kernel_rfl) (by kernel_rfl) (wpList_nil ?_)
        have bT : (v3.setRow (w.heap.size) ({ ev 3 a0 0 0 with object := a2 } : EvtR).cells.toArray).heap[w.heap.size]? = some (Obj.cells ({ ev 3 a0 0 0 with object := a2 } : EvtR).cells.toArray 45) := hR.setRow_ _
        simp only [Act.put]
        repeat go_step
        (try simp only [Exit.inBlock, Exit.then])
        refine bodyPost_ret (results_cell_row rfl _ _ (w.heap.size) 45 ({ ev 3 a0 0 0 with object := a2 } : EvtR).cells.toArray (0, 0) _ (by kernel_rfl) bT Tryz.underlying45 (by kernel_rfl) (by kernel_rfl)) rfl ?_
        have hH := (H1.call h0.done).setRow (Nat.le_refl w.heap.size) ({ ev 3 a0 0 0 with object := a2 } : EvtR).cells.toArray
        rw [e]
        exact ⟨({ ev 3 a0 0 0 with object := a2 } : EvtR), rfl, rfl, (hN.setRow (by omega) _).older (by omega), hH.done⟩
      · -- kind 4
        subst hk
        have h0 : Holds w0 (w1.alloc (.cells zEvtR.cells.toArray 45)) g w1.heap.size (fun k => F k ∨ w.heap.size ≤ k) 45 s2 (ev 4 a0 0 0).cells.toArray v2 := h0
        obtain ⟨a2, s3, q2⟩ : ∃ a s', pText s2 = (a, s') := ⟨_, _, rfl⟩
        have x0 := h0.at_ (i := 0) (v := .int .i64 4) rfl
        go_upto_region 23 with (fail)
        clear x0
        have C := rtext_calls w0 v2 g _ s2 h0.ok hS
        rw [q2] at C
        replace q2 := Lib.hid q2
        go_upto_region 41 with (go_at_call 82; refine C.mono ?_; rintro _ w2 ⟨rfl, R⟩; have h1 := h0.call R; have k0 := h1.at_ (i := 4) (v := .string ⟨#[]⟩) rfl; have f0 := h1.blk.frozen 4; have y0 := h1.at_ (i := 0) (v := .int .i64 4) rfl; clear h0 R C)
        with_reducible refine code_abs (fun w' => Holds w0 (w1.alloc (.cells zEvtR.cells.toArray 45)) g w1.heap.size (fun k => F k ∨ w.heap.size ≤ k) 45 s3 ({ ev 4 a0 0 0 with object := a2 } : EvtR).cells.toArray w') ?_ ?_
        · exact (h1.set 4 (.string (bstr a2))).to (by kernel_rfl)
        clear h1 y0 k0 f0
        rintro v3 h0
        have hN : EvtN (w1.heap.size + 1) v3 ({ ev 4 a0 0 0 with object := a2 } : EvtR) := ⟨RowN.none_ _ _ _, RowN.none_ _ _ _, RowN.none_ _ _ _, RowN.none_ _ _ _, RowN.none_ _ _ _, RowN.none_ _ _ _, RowN.none_ _ _ _, RowN.none_ _ _ _, RowN.none_ _ _ _⟩
        have e : pEvt s = (({ ev 4 a0 0 0 with object := a2 } : EvtR).abs, s3) := by unfold pEvt; simp only [q0.out, q1.out, hkk.out]; simp [pNode, pWho, pBody, q2.out]; rfl
        have hR := h0.older bR2 (by omega) (by omega)
        have hX := h0.blk
        have hR' : v3.heap[w.heap.size]? = some (Obj.cells zEvtR.cells.toArray 45) := hR
        have hX' : v3.heap[w1.heap.size]? = some (Obj.cells ({ ev 4 a0 0 0 with object := a2 } : EvtR).cells.toArray 45) := hX
        with_reducible refine wp_region_lit ?_
        with_reducible refine wpList_load_row rfl 45 (.tmp 3) rfl w1.heap.size (by kernel_rfl) 45 ({ ev 4 a0 0 0 with object := a2 } : EvtR).cells.toArray (0, 0) _ hX' Tryz.underlying45 (by kernel_rfl) (by kernel_rfl) ?_
        go_frame
        with_reducible refine wpList_store_row rfl 45 (.tmp 2) (.tmp 106) rfl w.heap.size ({ ev 4 a0 0 0 with object := a2 } : EvtR).cells.toArray (by kernel_rfl) (by kernel_rfl) 45 zEvtR.cells.toArray hR' (by kernel_rfl) (by kernel_rfl) (by kernel_rfl) (wpList_nil ?_)
        have bT : (v3.setRow (w.heap.size) ({ ev 4 a0 0 0 with object := a2 } : EvtR).cells.toArray).heap[w.heap.size]? = some (Obj.cells ({ ev 4 a0 0 0 with object := a2 } : EvtR).cells.toArray 45) := hR.setRow_ _
        simp only [Act.put]
        repeat go_step
        (try simp only [Exit.inBlock, Exit.then])
        refine bodyPost_ret (results_cell_row rfl _ _ (w.heap.size) 45 ({ ev 4 a0 0 0 with object := a2 } : EvtR).cells.toArray (0, 0) _ (by kernel_rfl) bT Tryz.underlying45 (by kernel_rfl) (by kernel_rfl)) rfl ?_
        have hH := (H1.call h0.done).setRow (Nat.le_refl w.heap.size) ({ ev 4 a0 0 0 with object := a2 } : EvtR).cells.toArray
        rw [e]
        exact ⟨({ ev 4 a0 0 0 with object := a2 } : EvtR), rfl, rfl, (hN.setRow (by omega) _).older (by omega), hH.done⟩
      · -- kind 5
        subst hk
        have h0 : Holds w0 (w1.alloc (.cells zEvtR.cells.toArray 45)) g w1.heap.size (fun k => F k ∨ w.heap.size ≤ k) 45 s2 (ev 5 a0 0 0).cells.toArray v2 := h0
        obtain ⟨a2, s3, q2⟩ : ∃ a s', pTruth s2 = (a, s') := ⟨_, _, rfl⟩
        have x0 := h0.at_ (i := 0) (v := .int .i64 5) rfl
        go_upto_region 25 with (fail)
        clear x0
        have C := rtruth_calls w0 v2 g _ s2 h0.ok
        rw [q2] at C
        replace q2 := Lib.hid q2
        go_upto_region 26 with (go_at_call 85; refine C.mono ?_; rintro _ w2 ⟨rfl, R⟩; have h1 := h0.call R; have k0 := h1.at_ (i := 55) (v := .bool false) rfl; have f0 := h1.blk.frozen 55; have y0 := h1.at_ (i := 0) (v := .int .i64 5) rfl; clear h0 R C)
        with_reducible refine code_abs (fun w' => Holds w0 (w1.alloc (.cells zEvtR.cells.toArray 45)) g w1.heap.size (fun k => F k ∨ w.heap.size ≤ k) 45 s3 ({ ev 5 a0 0 0 with hard := a2 } : EvtR).cells.toArray w') ?_ ?_
        · exact (h1.set 55 (.bool a2)).to (by kernel_rfl)
        clear h1 y0 k0 f0
        rintro v3 h0
        obtain ⟨a3, s4, q3⟩ : ∃ a s', pList pText s3 = (a, s') := ⟨_, _, rfl⟩
        have x0 := h0.at_ (i := 0) (v := .int .i64 5) rfl
        go_upto_region 26 with (fail)
        clear x0
        have C := texts_read w0 v3 g _ s3 h0.ok hS
        rw [q3] at C
        replace q3 := Lib.hid q3
        go_upto_region 41 with (go_at_call 86; refine C.mono ?_; rintro _ w2 ⟨r3, rfl, l3, m3, R⟩; have h1 := h0.call R; replace l3 := Lib.hid l3; have n3 := m3.older (B' := w1.heap.size + 1) (by have := h0.size; omega); have k0 := h1.at_ (i := 54) (v := .slice none 0 0) rfl; have f0 := h1.blk.frozen 54; have y0 := h1.at_ (i := 0) (v := .int .i64 5) rfl; clear h0 R C m3)
        with_reducible refine code_abs (fun w' => Holds w0 (w1.alloc (.cells zEvtR.cells.toArray 45)) g w1.heap.size (fun k => F k ∨ w.heap.size ≤ k) 45 s4 ({ ev 5 a0 0 0 with hard := a2, keys := r3 } : EvtR).cells.toArray w' ∧ RowN txC (w1.heap.size + 1) w' r3) ?_ ?_
        · exact ⟨(h1.set 54 (.slice r3.A r3.l.length r3.cap)).to (by kernel_rfl), (n3.cell (p := ⟨w1.heap.size, 54, none⟩) (Nat.lt_succ_self _) (.slice r3.A r3.l.length r3.cap))⟩
        clear h1 y0 k0 f0 n3
        rintro v4 ⟨h0, n3⟩
        have hN : EvtN (w1.heap.size + 1) v4 ({ ev 5 a0 0 0 with hard := a2, keys := r3 } : EvtR) := ⟨RowN.none_ _ _ _, RowN.none_ _ _ _, RowN.none_ _ _ _, RowN.none_ _ _ _, RowN.none_ _ _ _, RowN.none_ _ _ _, RowN.none_ _ _ _, RowN.none_ _ _ _, n3⟩
        have e : pEvt s = (({ ev 5 a0 0 0 with hard := a2, keys := r3 } : EvtR).abs, s4) := by unfold pEvt; simp only [q0.out, q1.out, hkk.out]; simp [pNode, pWho, pBody, q2.out, q3.out]; simp only [ev, EvtR.abs, ← l3.out]; rfl
        have hR := h0.older bR2 (by omega) (by omega)
        have hX := h0.blk
        have hR' : v4.heap[w.heap.size]? = some (Obj.cells zEvtR.cells.toArray 45) := hR
        have hX' : v4.heap[w1.heap.size]? = some (Obj.cells ({ ev 5 a0 0 0 with hard := a2, keys := r3 } : EvtR).cells.toArray 45) := hX
        with_reducible refine wp_region_lit ?_
        with_reducible refine wpList_load_row rfl 45 (.tmp 3) rfl w1.heap.size (by kernel_rfl) 45 ({ ev 5 a0 0 0 with hard := a2, keys := r3 } : EvtR).cells.toArray (0, 0) _ hX' Tryz.underlying45 (by kernel_rfl) (by kernel_rfl) ?_
        go_frame
        with_reducible refine wpList_store_row rfl 45 (.tmp 2) (.tmp 106) rfl w.heap.size ({ ev 5 a0 0 0 with hard := a2, keys := r3 } : EvtR).cells.toArray (by kernel_rfl) (by kernel_rfl) 45 zEvtR.cells.toArray hR' (by kernel_rfl) (by kernel_rfl) (by kernel_rfl) (wpList_nil ?_)
        have bT : (v4.setRow (w.heap.size) ({ ev 5 a0 0 0 with hard := a2, keys := r3 } : EvtR).cells.toArray).heap[w.heap.size]? = some (Obj.cells ({ ev 5 a0 0 0 with hard := a2, keys := r3 } : EvtR).cells.toArray 45) := hR.setRow_ _
        simp only [Act.put]
        repeat go_step
        (try simp only [Exit.inBlock, Exit.then])
        refine bodyPost_ret (results_cell_row rfl _ _ (w.heap.size) 45 ({ ev 5 a0 0 0 with hard := a2, keys := r3 } : EvtR).cells.toArray (0, 0) _ (by kernel_rfl) bT Tryz.underlying45 (by kernel_rfl) (by kernel_rfl)) rfl ?_
        have hH := (H1.call h0.done).setRow (Nat.le_refl w.heap.size) ({ ev 5 a0 0 0 with hard := a2, keys := r3 } : EvtR).cells.toArray
        rw [e]
        exact ⟨({ ev 5 a0 0 0 with hard := a2, keys := r3 } : EvtR), rfl, rfl, (hN.setRow (by omega) _).older (by omega), hH.done⟩
      · -- kind 6
        subst hk
        have h0 : Holds w0 (w1.alloc (.cells zEvtR.cells.toArray 45)) g w1.heap.size (fun k => F k ∨ w.heap.size ≤ k) 45 s2 (ev 6 a0 0 0).cells.toArray v2 := h0
        obtain ⟨a2, s3, q2⟩ : ∃ a s', pNum s2 = (a, s') := ⟨_, _, rfl⟩
        have x0 := h0.at_ (i := 0) (v := .int .i64 6) rfl
        go_upto_region 10 with (fail)
        clear x0
        have C := rint_calls w0 v2 g _ s2 h0.ok hS
        rw [q2] at C
        replace q2 := Lib.hid q2
        go_upto_region 11 with (go_at_call 81; refine C.mono ?_; rintro _ w2 ⟨rfl, R⟩; have h1 := h0.call R; have k0 := h1.at_ (i := 2) (v := .int .i64 0) rfl; have f0 := h1.blk.frozen 2; have y0 := h1.at_ (i := 0) (v := .int .i64 6) rfl; clear h0 R C)
        with_reducible refine code_abs (fun w' => Holds w0 (w1.alloc (.cells zEvtR.cells.toArray 45)) g w1.heap.size (fun k => F k ∨ w.heap.size ≤ k) 45 s3 ({ ev 6 a0 0 0 with node := a2 } : EvtR).cells.toArray w') ?_ ?_
        · exact (h1.set 2 (.int .i64 a2)).to (by kernel_rfl)
        clear h1 y0 k0 f0
        rintro v3 h0
        obtain ⟨a3, s4, q3⟩ : ∃ a s', pNum s3 = (a, s') := ⟨_, _, rfl⟩
        have x0 := h0.at_ (i := 0) (v := .int .i64 6) rfl
        go_upto_region 12 with (fail)
        clear x0
        have C := rint_calls w0 v3 g _ s3 h0.ok hS
        rw [q3] at C
        replace q3 := Lib.hid q3
        go_upto_region 13 with (go_at_call 81; refine C.mono ?_; rintro _ w2 ⟨rfl, R⟩; have h1 := h0.call R; have k0 := h1.at_ (i := 3) (v := .int .i64 0) rfl; have f0 := h1.blk.frozen 3; have y0 := h1.at_ (i := 0) (v := .int .i64 6) rfl; clear h0 R C)
        with_reducible refine code_abs (fun w' => Holds w0 (w1.alloc (.cells zEvtR.cells.toArray 45)) g w1.heap.size (fun k => F k ∨ w.heap.size ≤ k) 45 s4 ({ ev 6 a0 0 0 with node := a2, who := a3 } : EvtR).cells.toArray w') ?_ ?_
        · exact (h1.set 3 (.int .i64 a3)).to (by kernel_rfl)
        clear h1 y0 k0 f0
        rintro v4 h0
        obtain ⟨a4, s5, q4⟩ : ∃ a s', pReq s4 = (a, s') := ⟨_, _, rfl⟩
        have x0 := h0.at_ (i := 0) (v := .int .i64 6) rfl
        go_upto_region 28 with (fail)
        clear x0
        have C := rreq_calls w0 v4 g _ s4 h0.ok hS
        rw [q4] at C
        replace q4 := Lib.hid q4
        with_reducible refine wp_region_lit ?_
        with_reducible refine wpList_cutAt 3 ?_
        simp only [List.take_succ_cons, List.take_zero, List.drop_succ_cons, List.drop_zero]
        go_wp2_with (go_at_call 87; refine C.mono ?_; rintro _ w2 ⟨r4, rfl, l4, m4, ma4, mb4, R⟩; have h1 := h0.call R; replace l4 := Lib.hid l4; have n4 := m4.older (B' := w1.heap.size + 1) (by have := h0.size; omega); have na4 := ma4.older (B' := w1.heap.size + 1) (by have := h0.size; omega); have nb4 := mb4.older (B' := w1.heap.size + 1) (by have := h0.size; omega); clear h0 R C m4 ma4 mb4)
        with_reducible refine CutQ.go_ ?_
        with_reducible refine wpList_store_mid rfl 29 (.tmp 78) (.tmp 77) rfl w1.heap.size 5 r4.cells.toArray (by kernel_rfl) (by kernel_rfl) (h1.blk.there 5 r4.cells.toArray.size (of_decide_eq_true (by kernel_rfl))) (by kernel_rfl) (by kernel_rfl) (wpList_nil ?_)
        have h2 := (h1.mid r4.cells 5).to (cs' := ({ ev 6 a0 0 0 with node := a2, who := a3, req := r4 } : EvtR).cells.toArray) (by kernel_rfl)
        have n4 := RowN.cells (g := w1.heap.size) (o := 5) (vs := r4.cells) n4 (Nat.lt_succ_self _)
        have na4 := RowN.cells (g := w1.heap.size) (o := 5) (vs := r4.cells) na4 (Nat.lt_succ_self _)
        have nb4 := RowN.cells (g := w1.heap.size) (o := 5) (vs := r4.cells) nb4 (Nat.lt_succ_self _)
        revert h2 n4 na4 nb4
        generalize w2.setCells w1.heap.size 5 r4.cells = v5
        clear h1
        intro h0 n4 na4 nb4
        have x0 := h0.at_ (i := 0) (v := .int .i64 6) rfl
        go_upto_region 41 with (fail)
        clear x0
        have hN : EvtN (w1.heap.size + 1) v5 ({ ev 6 a0 0 0 with node := a2, who := a3, req := r4 } : EvtR) := ⟨n4, na4, nb4, RowN.none_ _ _ _, RowN.none_ _ _ _, RowN.none_ _ _ _, RowN.none_ _ _ _, RowN.none_ _ _ _, RowN.none_ _ _ _⟩
        have e : pEvt s = (({ ev 6 a0 0 0 with node := a2, who := a3, req := r4 } : EvtR).abs, s5) := by unfold pEvt; simp only [q0.out, q1.out, hkk.out]; simp [pNode, pWho, pBody, q2.out, q3.out, q4.out]; simp only [ev, EvtR.abs, ← l4.out]; rfl
        have hR := h0.older bR2 (by omega) (by omega)
        have hX := h0.blk
        have hR' : v5.heap[w.heap.size]? = some (Obj.cells zEvtR.cells.toArray 45) := hR
        have hX' : v5.heap[w1.heap.size]? = some (Obj.cells ({ ev 6 a0 0 0 with node := a2, who := a3, req := r4 } : EvtR).cells.toArray 45) := hX
        with_reducible refine wp_region_lit ?_
        with_reducible refine wpList_load_row rfl 45 (.tmp 3) rfl w1.heap.size (by kernel_rfl) 45 ({ ev 6 a0 0 0 with node := a2, who := a3, req := r4 } : EvtR).cells.toArray (0, 0) _ hX' Tryz.underlying45 (by kernel_rfl) (by kernel_rfl) ?_
        go_frame
        with_reducible refine wpList_store_row rfl 45 (.tmp 2) (.tmp 106) rfl w.heap.size ({ ev 6 a0 0 0 with node := a2, who := a3, req := r4 } : EvtR).cells.toArray (by kernel_rfl) (by kernel_rfl) 45 zEvtR.cells.toArray hR' (by kernel_rfl) (by kernel_rfl) (by kernel_rfl) (wpList_nil ?_)
        have bT : (v5.setRow (w.heap.size) ({ ev 6 a0 0 0 with node := a2, who := a3, req := r4 } : EvtR).cells.toArray).heap[w.heap.size]? = some (Obj.cells ({ ev 6 a0 0 0 with node := a2, who := a3, req := r4 } : EvtR).cells.toArray 45) := hR.setRow_ _
        simp only [Act.put]
        repeat go_step
        (try simp only [Exit.inBlock, Exit.then])
        refine bodyPost_ret (results_cell_row rfl _ _ (w.heap.size) 45 ({ ev 6 a0 0 0 with node := a2, who := a3, req := r4 } : EvtR).cells.toArray (0, 0) _ (by kernel_rfl) bT Tryz.underlying45 (by kernel_rfl) (by kernel_rfl)) rfl ?_
        have hH := (H1.call h0.done).setRow (Nat.le_refl w.heap.size) ({ ev 6 a0 0 0 with node := a2, who := a3, req := r4 } : EvtR).cells.toArray
        rw [e]
        exact ⟨({ ev 6 a0 0 0 with node := a2, who := a3, req := r4 } : EvtR), rfl, rfl, (hN.setRow (by omega) _).older (by omega), hH.done⟩
      · -- kind 7
        subst hk
        have h0 : Holds w0 (w1.alloc (.cells zEvtR.cells.toArray 45)) g w1.heap.size (fun k => F k ∨ w.heap.size ≤ k) 45 s2 (ev 7 a0 0 0).cells.toArray v2 := h0
        obtain ⟨a2, s3, q2⟩ : ∃ a s', pNum s2 = (a, s') := ⟨_, _, rfl⟩
        have x0 := h0.at_ (i := 0) (v := .int .i64 7) rfl
        go_upto_region 10 with (fail)
        clear x0
        have C := rint_calls w0 v2 g _ s2 h0.ok hS
        rw [q2] at C
        replace q2 := Lib.hid q2
        go_upto_region 11 with (go_at_call 81; refine C.mono ?_; rintro _ w2 ⟨rfl, R⟩; have h1 := h0.call R; have k0 := h1.at_ (i := 2) (v := .int .i64 0) rfl; have f0 := h1.blk.frozen 2; have y0 := h1.at_ (i := 0) (v := .int .i64 7) rfl; clear h0 R C)
        with_reducible refine code_abs (fun w' => Holds w0 (w1.alloc (.cells zEvtR.cells.toArray 45)) g w1.heap.size (fun k => F k ∨ w.heap.size ≤ k) 45 s3 ({ ev 7 a0 0 0 with node := a2 } : EvtR).cells.toArray w') ?_ ?_
        · exact (h1.set 2 (.int .i64 a2)).to (by kernel_rfl)
        clear h1 y0 k0 f0
        rintro v3 h0
        obtain ⟨a3, s4, q3⟩ : ∃ a s', pNum s3 = (a, s') := ⟨_, _, rfl⟩
        have x0 := h0.at_ (i := 0) (v := .int .i64 7) rfl
        go_upto_region 12 with (fail)
        clear x0
        have C := rint_calls w0 v3 g _ s3 h0.ok hS
        rw [q3] at C
        replace q3 := Lib.hid q3
        go_upto_region 13 with (go_at_call 81; refine C.mono ?_; rintro _ w2 ⟨rfl, R⟩; have h1 := h0.call R; have k0 := h1.at_ (i := 3) (v := .int .i64 0) rfl; have f0 := h1.blk.frozen 3; have y0 := h1.at_ (i := 0) (v := .int .i64 7) rfl; clear h0 R C)
        with_reducible refine code_abs (fun w' => Holds w0 (w1.alloc (.cells zEvtR.cells.toArray 45)) g w1.heap.size (fun k => F k ∨ w.heap.size ≤ k) 45 s4 ({ ev 7 a0 0 0 with node := a2, who := a3 } : EvtR).cells.toArray w') ?_ ?_
        · exact (h1.set 3 (.int .i64 a3)).to (by kernel_rfl)
        clear h1 y0 k0 f0
        rintro v4 h0
        have x0 := h0.at_ (i := 0) (v := .int .i64 7) rfl
        go_upto_region 41 with (fail)
        clear x0
        have hN : EvtN (w1.heap.size + 1) v4 ({ ev 7 a0 0 0 with node := a2, who := a3 } : EvtR) := ⟨RowN.none_ _ _ _, RowN.none_ _ _ _, RowN.none_ _ _ _, RowN.none_ _ _ _, RowN.none_ _ _ _, RowN.none_ _ _ _, RowN.none_ _ _ _, RowN.none_ _ _ _, RowN.none_ _ _ _⟩
        have e : pEvt s = (({ ev 7 a0 0 0 with node := a2, who := a3 } : EvtR).abs, s4) := by unfold pEvt; simp only [q0.out, q1.out, hkk.out]; simp [pNode, pWho, pBody, q2.out, q3.out]; rfl
        have hR := h0.older bR2 (by omega) (by omega)
        have hX := h0.blk
        have hR' : v4.heap[w.heap.size]? = some (Obj.cells zEvtR.cells.toArray 45) := hR
        have hX' : v4.heap[w1.heap.size]? = some (Obj.cells ({ ev 7 a0 0 0 with node := a2, who := a3 } : EvtR).cells.toArray 45) := hX
        with_reducible refine wp_region_lit ?_
        with_reducible refine wpList_load_row rfl 45 (.tmp 3) rfl w1.heap.size (by kernel_rfl) 45 ({ ev 7 a0 0 0 with node := a2, who := a3 } : EvtR).cells.toArray (0, 0) _ hX' Tryz.underlying45 (by kernel_rfl) (by kernel_rfl) ?_
        go_frame
        with_reducible refine wpList_store_row rfl 45 (.tmp 2) (.tmp 106) rfl w.heap.size ({ ev 7 a0 0 0 with node := a2, who := a3 } : EvtR).cells.toArray (by kernel_rfl) (by kernel_rfl) 45 zEvtR.cells.toArray hR' (by kernel_rfl) (by kernel_rfl) (by kernel_rfl) (wpList_nil ?_)
        have bT : (v4.setRow (w.heap.size) ({ ev 7 a0 0 0 with node := a2, who := a3 } : EvtR).cells.toArray).heap[w.heap.size]? = some (Obj.cells ({ ev 7 a0 0 0 with node := a2, who := a3 } : EvtR).cells.toArray 45) := hR.setRow_ _
        simp only [Act.put]
        repeat go_step
        (try simp only [Exit.inBlock, Exit.then])
        refine bodyPost_ret (results_cell_row rfl _ _ (w.heap.size) 45 ({ ev 7 a0 0 0 with node := a2, who := a3 } : EvtR).cells.toArray (0, 0) _ (by kernel_rfl) bT Tryz.underlying45 (by kernel_rfl) (by kernel_rfl)) rfl ?_
        have hH := (H1.call h0.done).setRow (Nat.le_refl w.heap.size) ({ ev 7 a0 0 0 with node := a2, who := a3 } : EvtR).cells.toArray
        rw [e]
        exact ⟨({ ev 7 a0 0 0 with node := a2, who := a3 } : EvtR), rfl, rfl, (hN.setRow (by omega) _).older (by omega), hH.done⟩
      · -- kind 8
        subst hk
        have h0 : Holds w0 (w1.alloc (.cells zEvtR.cells.toArray 45)) g w1.heap.size (fun k => F k ∨ w.heap.size ≤ k) 45 s2 (ev 8 a0 0 0).cells.toArray v2 := h0
        obtain ⟨a2, s3, q2⟩ : ∃ a s', pNum s2 = (a, s') := ⟨_, _, rfl⟩
        have x0 := h0.at_ (i := 0) (v := .int .i64 8) rfl
        go_upto_region 10 with (fail)
        clear x0
        have C := rint_calls w0 v2 g _ s2 h0.ok hS
        rw [q2] at C
        replace q2 := Lib.hid q2
        go_upto_region 11 with (go_at_call 81; refine C.mono ?_; rintro _ w2 ⟨rfl, R⟩; have h1 := h0.call R; have k0 := h1.at_ (i := 2) (v := .int .i64 0) rfl; have f0 := h1.blk.frozen 2; have y0 := h1.at_ (i := 0) (v := .int .i64 8) rfl; clear h0 R C)
        with_reducible refine code_abs (fun w' => Holds w0 (w1.alloc (.cells zEvtR.cells.toArray 45)) g w1.heap.size (fun k => F k ∨ w.heap.size ≤ k) 45 s3 ({ ev 8 a0 0 0 with node := a2 } : EvtR).cells.toArray w') ?_ ?_
        · exact (h1.set 2 (.int .i64 a2)).to (by kernel_rfl)
        clear h1 y0 k0 f0
        rintro v3 h0
        obtain ⟨a3, s4, q3⟩ : ∃ a s', pNum s3 = (a, s') := ⟨_, _, rfl⟩
        have x0 := h0.at_ (i := 0) (v := .int .i64 8) rfl
        go_upto_region 12 with (fail)
        clear x0
        have C := rint_calls w0 v3 g _ s3 h0.ok hS
        rw [q3] at C
        replace q3 := Lib.hid q3
        go_upto_region 13 with (go_at_call 81; refine C.mono ?_; rintro _ w2 ⟨rfl, R⟩; have h1 := h0.call R; have k0 := h1.at_ (i := 3) (v := .int .i64 0) rfl; have f0 := h1.blk.frozen 3; have y0 := h1.at_ (i := 0) (v := .int .i64 8) rfl; clear h0 R C)
        with_reducible refine code_abs (fun w' => Holds w0 (w1.alloc (.cells zEvtR.cells.toArray 45)) g w1.heap.size (fun k => F k ∨ w.heap.size ≤ k) 45 s4 ({ ev 8 a0 0 0 with node := a2, who := a3 } : EvtR).cells.toArray w') ?_ ?_
        · exact (h1.set 3 (.int .i64 a3)).to (by kernel_rfl)
        clear h1 y0 k0 f0
        rintro v4 h0
        obtain ⟨a4, s5, q4⟩ : ∃ a s', pAns s4 = (a, s') := ⟨_, _, rfl⟩
        have x0 := h0.at_ (i := 0) (v := .int .i64 8) rfl
        go_upto_region 30 with (fail)
        clear x0
        have C := rans_calls w0 v4 g _ s4 h0.ok hS
        rw [q4] at C
        replace q4 := Lib.hid q4
        with_reducible refine wp_region_lit ?_
        with_reducible refine wpList_cutAt 3 ?_
        simp only [List.take_succ_cons, List.take_zero, List.drop_succ_cons, List.drop_zero]
        go_wp2_with (go_at_call 88; refine C.mono ?_; rintro _ w2 ⟨r4, rfl, l4, m4, ma4, R⟩; have h1 := h0.call R; replace l4 := Lib.hid l4; have n4 := m4.older (B' := w1.heap.size + 1) (by have := h0.size; omega); have na4 := ma4.older (B' := w1.heap.size + 1) (by have := h0.size; omega); clear h0 R C m4 ma4)
        with_reducible refine CutQ.go_ ?_
        with_reducible refine wpList_store_mid rfl 36 (.tmp 83) (.tmp 82) rfl w1.heap.size 27 r4.cells.toArray (by kernel_rfl) (by kernel_rfl) (h1.blk.there 27 r4.cells.toArray.size (of_decide_eq_true (by kernel_rfl))) (by kernel_rfl) (by kernel_rfl) (wpList_nil ?_)
        have h2 := (h1.mid r4.cells 27).to (cs' := ({ ev 8 a0 0 0 with node := a2, who := a3, ans := r4 } : EvtR).cells.toArray) (by kernel_rfl)
        have n4 := RowN.cells (g := w1.heap.size) (o := 27) (vs := r4.cells) n4 (Nat.lt_succ_self _)
        have na4 := RowN.cells (g := w1.heap.size) (o := 27) (vs := r4.cells) na4 (Nat.lt_succ_self _)
        revert h2 n4 na4
        generalize w2.setCells w1.heap.size 27 r4.cells = v5
        clear h1
        intro h0 n4 na4
        have x0 := h0.at_ (i := 0) (v := .int .i64 8) rfl
        go_upto_region 41 with (fail)
        clear x0
        have hN : EvtN (w1.heap.size + 1) v5 ({ ev 8 a0 0 0 with node := a2, who := a3, ans := r4 } : EvtR) := ⟨RowN.none_ _ _ _, RowN.none_ _ _ _, RowN.none_ _ _ _, RowN.none_ _ _ _, n4, na4, RowN.none_ _ _ _, RowN.none_ _ _ _, RowN.none_ _ _ _⟩
        have e : pEvt s = (({ ev 8 a0 0 0 with node := a2, who := a3, ans := r4 } : EvtR).abs, s5) := by unfold pEvt; simp only [q0.out, q1.out, hkk.out]; simp [pNode, pWho, pBody, q2.out, q3.out, q4.out]; simp only [ev, EvtR.abs, ← l4.out]; rfl
        have hR := h0.older bR2 (by omega) (by omega)
        have hX := h0.blk
        have hR' : v5.heap[w.heap.size]? = some (Obj.cells zEvtR.cells.toArray 45) := hR
        have hX' : v5.heap[w1.heap.size]? = some (Obj.cells ({ ev 8 a0 0 0 with node := a2, who := a3, ans := r4 } : EvtR).cells.toArray 45) := hX
        with_reducible refine wp_region_lit ?_
        with_reducible refine wpList_load_row rfl 45 (.tmp 3) rfl w1.heap.size (by kernel_rfl) 45 ({ ev 8 a0 0 0 with node := a2, who := a3, ans := r4 } : EvtR).cells.toArray (0, 0) _ hX' Tryz.underlying45 (by kernel_rfl) (by kernel_rfl) ?_
        go_frame
        with_reducible refine wpList_store_row rfl 45 (.tmp 2) (.tmp 106) rfl w.heap.size ({ ev 8 a0 0 0 with node := a2, who := a3, ans := r4 } : EvtR).cells.toArray (by kernel_rfl) (by kernel_rfl) 45 zEvtR.cells.toArray hR' (by kernel_rfl) (by kernel_rfl) (by kernel_rfl) (wpList_nil ?_)
        have bT : (v5.setRow (w.heap.size) ({ ev 8 a0 0 0 with node := a2, who := a3, ans := r4 } : EvtR).cells.toArray).heap[w.heap.size]? = some (Obj.cells ({ ev 8 a0 0 0 with node := a2, who := a3, ans := r4 } : EvtR).cells.toArray 45) := hR.setRow_ _
        simp only [Act.put]
        repeat go_step
        (try simp only [Exit.inBlock, Exit.then])
        refine bodyPost_ret (results_cell_row rfl _ _ (w.heap.size) 45 ({ ev 8 a0 0 0 with node := a2, who := a3, ans := r4 } : EvtR).cells.toArray (0, 0) _ (by kernel_rfl) bT Tryz.underlying45 (by kernel_rfl) (by kernel_rfl)) rfl ?_
        have hH := (H1.call h0.done).setRow (Nat.le_refl w.heap.size) ({ ev 8 a0 0 0 with node := a2, who := a3, ans := r4 } : EvtR).cells.toArray
        rw [e]
        exact ⟨({ ev 8 a0 0 0 with node := a2, who := a3, ans := r4 } : EvtR), rfl, rfl, (hN.setRow (by omega) _).older (by omega), hH.done⟩
      · -- kind 9
        subst hk
        have h0 : Holds w0 (w1.alloc (.cells zEvtR.cells.toArray 45)) g w1.heap.size (fun k => F k ∨ w.heap.size ≤ k) 45 s2 (ev 9 a0 0 0).cells.toArray v2 := h0
        obtain ⟨a2, s3, q2⟩ : ∃ a s', pNum s2 = (a, s') := ⟨_, _, rfl⟩
        have x0 := h0.at_ (i := 0) (v := .int .i64 9) rfl
        go_upto_region 10 with (fail)
        clear x0
        have C := rint_calls w0 v2 g _ s2 h0.ok hS
        rw [q2] at C
        replace q2 := Lib.hid q2
        go_upto_region 11 with (go_at_call 81; refine C.mono ?_; rintro _ w2 ⟨rfl, R⟩; have h1 := h0.call R; have k0 := h1.at_ (i := 2) (v := .int .i64 0) rfl; have f0 := h1.blk.frozen 2; have y0 := h1.at_ (i := 0) (v := .int .i64 9) rfl; clear h0 R C)
        with_reducible refine code_abs (fun w' => Holds w0 (w1.alloc (.cells zEvtR.cells.toArray 45)) g w1.heap.size (fun k => F k ∨ w.heap.size ≤ k) 45 s3 ({ ev 9 a0 0 0 with node := a2 } : EvtR).cells.toArray w') ?_ ?_
        · exact (h1.set 2 (.int .i64 a2)).to (by kernel_rfl)
        clear h1 y0 k0 f0
        rintro v3 h0
        obtain ⟨a3, s4, q3⟩ : ∃ a s', pNum s3 = (a, s') := ⟨_, _, rfl⟩
        have x0 := h0.at_ (i := 0) (v := .int .i64 9) rfl
        go_upto_region 12 with (fail)
        clear x0
        have C := rint_calls w0 v3 g _ s3 h0.ok hS
        rw [q3] at C
        replace q3 := Lib.hid q3
        go_upto_region 13 with (go_at_call 81; refine C.mono ?_; rintro _ w2 ⟨rfl, R⟩; have h1 := h0.call R; have k0 := h1.at_ (i := 3) (v := .int .i64 0) rfl; have f0 := h1.blk.frozen 3; have y0 := h1.at_ (i := 0) (v := .int .i64 9) rfl; clear h0 R C)
        with_reducible refine code_abs (fun w' => Holds w0 (w1.alloc (.cells zEvtR.cells.toArray 45)) g w1.heap.size (fun k => F k ∨ w.heap.size ≤ k) 45 s4 ({ ev 9 a0 0 0 with node := a2, who := a3 } : EvtR).cells.toArray w') ?_ ?_
        · exact (h1.set 3 (.int .i64 a3)).to (by kernel_rfl)
        clear h1 y0 k0 f0
        rintro v4 h0
        obtain ⟨a4, s5, q4⟩ : ∃ a s', pText s4 = (a, s') := ⟨_, _, rfl⟩
        have x0 := h0.at_ (i := 0) (v := .int .i64 9) rfl
        go_upto_region 33 with (fail)
        clear x0
        have C := rbytesR_calls w0 v4 g _ s4 h0.ok hS
        rw [q4] at C
        replace q4 := Lib.hid q4
        go_upto_region 41 with (go_at_call 84; refine C.mono ?_; rintro _ w2 ⟨r4, rfl, l4, m4, R⟩; have h1 := h0.call R; replace l4 := Lib.hid l4; have n4 := m4.older (B' := w1.heap.size + 1) (by have := h0.size; omega); have k0 := h1.at_ (i := 53) (v := .slice none 0 0) rfl; have f0 := h1.blk.frozen 53; have y0 := h1.at_ (i := 0) (v := .int .i64 9) rfl; clear h0 R C m4)
        with_reducible refine code_abs (fun w' => Holds w0 (w1.alloc (.cells zEvtR.cells.toArray 45)) g w1.heap.size (fun k => F k ∨ w.heap.size ≤ k) 45 s5 ({ ev 9 a0 0 0 with node := a2, who := a3, bytes := r4 } : EvtR).cells.toArray w' ∧ RowN byC (w1.heap.size + 1) w' r4) ?_ ?_
        · exact ⟨(h1.set 53 (.slice r4.A r4.l.length r4.cap)).to (by kernel_rfl), (n4.cell (p := ⟨w1.heap.size, 53, none⟩) (Nat.lt_succ_self _) (.slice r4.A r4.l.length r4.cap))⟩
        clear h1 y0 k0 f0 n4
        rintro v5 ⟨h0, n4⟩
        have hN : EvtN (w1.heap.size + 1) v5 ({ ev 9 a0 0 0 with node := a2, who := a3, bytes := r4 } : EvtR) := ⟨RowN.none_ _ _ _, RowN.none_ _ _ _, RowN.none_ _ _ _, RowN.none_ _ _ _, RowN.none_ _ _ _, RowN.none_ _ _ _, RowN.none_ _ _ _, n4, RowN.none_ _ _ _⟩
        have e : pEvt s = (({ ev 9 a0 0 0 with node := a2, who := a3, bytes := r4 } : EvtR).abs, s5) := by unfold pEvt; simp only [q0.out, q1.out, hkk.out]; simp [pNode, pWho, pBody, q2.out, q3.out, q4.out]; simp only [ev, EvtR.abs, ← l4.out]; rfl
        have hR := h0.older bR2 (by omega) (by omega)
        have hX := h0.blk
        have hR' : v5.heap[w.heap.size]? = some (Obj.cells zEvtR.cells.toArray 45) := hR
        have hX' : v5.heap[w1.heap.size]? = some (Obj.cells ({ ev 9 a0 0 0 with node := a2, who := a3, bytes := r4 } : EvtR).cells.toArray 45) := hX
        with_reducible refine wp_region_lit ?_
        with_reducible refine wpList_load_row rfl 45 (.tmp 3) rfl w1.heap.size (by kernel_rfl) 45 ({ ev 9 a0 0 0 with node := a2, who := a3, bytes := r4 } : EvtR).cells.toArray (0, 0) _ hX' Tryz.underlying45 (by kernel_rfl) (by kernel_rfl) ?_
        go_frame
        with_reducible refine wpList_store_row rfl 45 (.tmp 2) (.tmp 106) rfl w.heap.size ({ ev 9 a0 0 0 with node := a2, who := a3, bytes := r4 } : EvtR).cells.toArray (by kernel_rfl) (by kernel_rfl) 45 zEvtR.cells.toArray hR' (by kernel_rfl) (by kernel_rfl) (by kernel_rfl) (wpList_nil ?_)
        have bT : (v5.setRow (w.heap.size) ({ ev 9 a0 0 0 with node := a2, who := a3, bytes := r4 } : EvtR).cells.toArray).heap[w.heap.size]? = some (Obj.cells ({ ev 9 a0 0 0 with node := a2, who := a3, bytes := r4 } : EvtR).cells.toArray 45) := hR.setRow_ _
        simp only [Act.put]
        repeat go_step
        (try simp only [Exit.inBlock, Exit.then])
        refine bodyPost_ret (results_cell_row rfl _ _ (w.heap.size) 45 ({ ev 9 a0 0 0 with node := a2, who := a3, bytes := r4 } : EvtR).cells.toArray (0, 0) _ (by kernel_rfl) bT Tryz.underlying45 (by kernel_rfl) (by kernel_rfl)) rfl ?_
        have hH := (H1.call h0.done).setRow (Nat.le_refl w.heap.size) ({ ev 9 a0 0 0 with node := a2, who := a3, bytes := r4 } : EvtR).cells.toArray
        rw [e]
        exact ⟨({ ev 9 a0 0 0 with node := a2, who := a3, bytes := r4 } : EvtR), rfl, rfl, (hN.setRow (by omega) _).older (by omega), hH.done⟩
      · -- kind 10
        subst hk
        have h0 : Holds w0 (w1.alloc (.cells zEvtR.cells.toArray 45)) g w1.heap.size (fun k => F k ∨ w.heap.size ≤ k) 45 s2 (ev 10 a0 0 0).cells.toArray v2 := h0
        obtain ⟨a2, s3, q2⟩ : ∃ a s', pNum s2 = (a, s') := ⟨_, _, rfl⟩
        have x0 := h0.at_ (i := 0) (v := .int .i64 10) rfl
        go_upto_region 10 with (fail)
        clear x0
        have C := rint_calls w0 v2 g _ s2 h0.ok hS
        rw [q2] at C
        replace q2 := Lib.hid q2
        go_upto_region 11 with (go_at_call 81; refine C.mono ?_; rintro _ w2 ⟨rfl, R⟩; have h1 := h0.call R; have k0 := h1.at_ (i := 2) (v := .int .i64 0) rfl; have f0 := h1.blk.frozen 2; have y0 := h1.at_ (i := 0) (v := .int .i64 10) rfl; clear h0 R C)
        with_reducible refine code_abs (fun w' => Holds w0 (w1.alloc (.cells zEvtR.cells.toArray 45)) g w1.heap.size (fun k => F k ∨ w.heap.size ≤ k) 45 s3 ({ ev 10 a0 0 0 with node := a2 } : EvtR).cells.toArray w') ?_ ?_
        · exact (h1.set 2 (.int .i64 a2)).to (by kernel_rfl)
        clear h1 y0 k0 f0
        rintro v3 h0
        obtain ⟨a3, s4, q3⟩ : ∃ a s', pNum s3 = (a, s') := ⟨_, _, rfl⟩
        have x0 := h0.at_ (i := 0) (v := .int .i64 10) rfl
        go_upto_region 12 with (fail)
        clear x0
        have C := rint_calls w0 v3 g _ s3 h0.ok hS
        rw [q3] at C
        replace q3 := Lib.hid q3
        go_upto_region 13 with (go_at_call 81; refine C.mono ?_; rintro _ w2 ⟨rfl, R⟩; have h1 := h0.call R; have k0 := h1.at_ (i := 3) (v := .int .i64 0) rfl; have f0 := h1.blk.frozen 3; have y0 := h1.at_ (i := 0) (v := .int .i64 10) rfl; clear h0 R C)
        with_reducible refine code_abs (fun w' => Holds w0 (w1.alloc (.cells zEvtR.cells.toArray 45)) g w1.heap.size (fun k => F k ∨ w.heap.size ≤ k) 45 s4 ({ ev 10 a0 0 0 with node := a2, who := a3 } : EvtR).cells.toArray w') ?_ ?_
        · exact (h1.set 3 (.int .i64 a3)).to (by kernel_rfl)
        clear h1 y0 k0 f0
        rintro v4 h0
        obtain ⟨a4, s5, q4⟩ : ∃ a s', pTruth s4 = (a, s') := ⟨_, _, rfl⟩
        have x0 := h0.at_ (i := 0) (v := .int .i64 10) rfl
        go_upto_region 36 with (fail)
        clear x0
        have C := rtruth_calls w0 v4 g _ s4 h0.ok
        rw [q4] at C
        replace q4 := Lib.hid q4
        go_upto_region 41 with (go_at_call 85; refine C.mono ?_; rintro _ w2 ⟨rfl, R⟩; have h1 := h0.call R; have k0 := h1.at_ (i := 56) (v := .bool false) rfl; have f0 := h1.blk.frozen 56; have y0 := h1.at_ (i := 0) (v := .int .i64 10) rfl; clear h0 R C)
        with_reducible refine code_abs (fun w' => Holds w0 (w1.alloc (.cells zEvtR.cells.toArray 45)) g w1.heap.size (fun k => F k ∨ w.heap.size ≤ k) 45 s5 ({ ev 10 a0 0 0 with node := a2, who := a3, whole := a4 } : EvtR).cells.toArray w') ?_ ?_
        · exact (h1.set 56 (.bool a4)).to (by kernel_rfl)
        clear h1 y0 k0 f0
        rintro v5 h0
        have hN : EvtN (w1.heap.size + 1) v5 ({ ev 10 a0 0 0 with node := a2, who := a3, whole := a4 } : EvtR) := ⟨RowN.none_ _ _ _, RowN.none_ _ _ _, RowN.none_ _ _ _, RowN.none_ _ _ _, RowN.none_ _ _ _, RowN.none_ _ _ _, RowN.none_ _ _ _, RowN.none_ _ _ _, RowN.none_ _ _ _⟩
        have e : pEvt s = (({ ev 10 a0 0 0 with node := a2, who := a3, whole := a4 } : EvtR).abs, s5) := by unfold pEvt; simp only [q0.out, q1.out, hkk.out]; simp [pNode, pWho, pBody, q2.out, q3.out, q4.out]; rfl
        have hR := h0.older bR2 (by omega) (by omega)
        have hX := h0.blk
        have hR' : v5.heap[w.heap.size]? = some (Obj.cells zEvtR.cells.toArray 45) := hR
        have hX' : v5.heap[w1.heap.size]? = some (Obj.cells ({ ev 10 a0 0 0 with node := a2, who := a3, whole := a4 } : EvtR).cells.toArray 45) := hX
        with_reducible refine wp_region_lit ?_
        with_reducible refine wpList_load_row rfl 45 (.tmp 3) rfl w1.heap.size (by kernel_rfl) 45 ({ ev 10 a0 0 0 with node := a2, who := a3, whole := a4 } : EvtR).cells.toArray (0, 0) _ hX' Tryz.underlying45 (by kernel_rfl) (by kernel_rfl) ?_
        go_frame
        with_reducible refine wpList_store_row rfl 45 (.tmp 2) (.tmp 106) rfl w.heap.size ({ ev 10 a0 0 0 with node := a2, who := a3, whole := a4 } : EvtR).cells.toArray (by kernel_rfl) (by kernel_rfl) 45 zEvtR.cells.toArray hR' (by kernel_rfl) (by kernel_rfl) (by kernel_rfl) (wpList_nil ?_)
        have bT : (v5.setRow (w.heap.size) ({ ev 10 a0 0 0 with node := a2, who := a3, whole := a4 } : EvtR).cells.toArray).heap[w.heap.size]? = some (Obj.cells ({ ev 10 a0 0 0 with node := a2, who := a3, whole := a4 } : EvtR).cells.toArray 45) := hR.setRow_ _
        simp only [Act.put]
        repeat go_step
        (try simp only [Exit.inBlock, Exit.then])
        refine bodyPost_ret (results_cell_row rfl _ _ (w.heap.size) 45 ({ ev 10 a0 0 0 with node := a2, who := a3, whole := a4 } : EvtR).cells.toArray (0, 0) _ (by kernel_rfl) bT Tryz.underlying45 (by kernel_rfl) (by kernel_rfl)) rfl ?_
        have hH := (H1.call h0.done).setRow (Nat.le_refl w.heap.size) ({ ev 10 a0 0 0 with node := a2, who := a3, whole := a4 } : EvtR).cells.toArray
        rw [e]
        exact ⟨({ ev 10 a0 0 0 with node := a2, who := a3, whole := a4 } : EvtR), rfl, rfl, (hN.setRow (by omega) _).older (by omega), hH.done⟩
      · -- kind 11
        subst hk
        have h0 : Holds w0 (w1.alloc (.cells zEvtR.cells.toArray 45)) g w1.heap.size (fun k => F k ∨ w.heap.size ≤ k) 45 s2 (ev 11 a0 0 0).cells.toArray v2 := h0
        obtain ⟨a2, s3, q2⟩ : ∃ a s', pNum s2 = (a, s') := ⟨_, _, rfl⟩
        have x0 := h0.at_ (i := 0) (v := .int .i64 11) rfl
        go_upto_region 10 with (fail)
        clear x0
        have C := rint_calls w0 v2 g _ s2 h0.ok hS
        rw [q2] at C
        replace q2 := Lib.hid q2
        go_upto_region 11 with (go_at_call 81; refine C.mono ?_; rintro _ w2 ⟨rfl, R⟩; have h1 := h0.call R; have k0 := h1.at_ (i := 2) (v := .int .i64 0) rfl; have f0 := h1.blk.frozen 2; have y0 := h1.at_ (i := 0) (v := .int .i64 11) rfl; clear h0 R C)
        with_reducible refine code_abs (fun w' => Holds w0 (w1.alloc (.cells zEvtR.cells.toArray 45)) g w1.heap.size (fun k => F k ∨ w.heap.size ≤ k) 45 s3 ({ ev 11 a0 0 0 with node := a2 } : EvtR).cells.toArray w') ?_ ?_
        · exact (h1.set 2 (.int .i64 a2)).to (by kernel_rfl)
        clear h1 y0 k0 f0
        rintro v3 h0
        obtain ⟨a3, s4, q3⟩ : ∃ a s', pNum s3 = (a, s') := ⟨_, _, rfl⟩
        have x0 := h0.at_ (i := 0) (v := .int .i64 11) rfl
        go_upto_region 12 with (fail)
        clear x0
        have C := rint_calls w0 v3 g _ s3 h0.ok hS
        rw [q3] at C
        replace q3 := Lib.hid q3
        go_upto_region 13 with (go_at_call 81; refine C.mono ?_; rintro _ w2 ⟨rfl, R⟩; have h1 := h0.call R; have k0 := h1.at_ (i := 3) (v := .int .i64 0) rfl; have f0 := h1.blk.frozen 3; have y0 := h1.at_ (i := 0) (v := .int .i64 11) rfl; clear h0 R C)
        with_reducible refine code_abs (fun w' => Holds w0 (w1.alloc (.cells zEvtR.cells.toArray 45)) g w1.heap.size (fun k => F k ∨ w.heap.size ≤ k) 45 s4 ({ ev 11 a0 0 0 with node := a2, who := a3 } : EvtR).cells.toArray w') ?_ ?_
        · exact (h1.set 3 (.int .i64 a3)).to (by kernel_rfl)
        clear h1 y0 k0 f0
        rintro v4 h0
        obtain ⟨a4, s5, q4⟩ : ∃ a s', pFet s4 = (a, s') := ⟨_, _, rfl⟩
        have x0 := h0.at_ (i := 0) (v := .int .i64 11) rfl
        go_upto_region 38 with (fail)
        clear x0
        have C := rfet_calls w0 v4 g _ s4 h0.ok hS
        rw [q4] at C
        replace q4 := Lib.hid q4
        with_reducible refine wp_region_lit ?_
        with_reducible refine wpList_cutAt 3 ?_
        simp only [List.take_succ_cons, List.take_zero, List.drop_succ_cons, List.drop_zero]
        go_wp2_with (go_at_call 89; refine C.mono ?_; rintro _ w2 ⟨rfl, R⟩; have h1 := h0.call R; clear h0 R C)
        with_reducible refine CutQ.go_ ?_
        with_reducible refine wpList_store_mid rfl 40 (.tmp 100) (.tmp 99) rfl w1.heap.size 31 (ftC a4).toArray (by kernel_rfl) (by kernel_rfl) (h1.blk.there 31 (ftC a4).toArray.size (of_decide_eq_true (by kernel_rfl))) (by kernel_rfl) (by kernel_rfl) (wpList_nil ?_)
        have h2 := (h1.mid (ftC a4) 31).to (cs' := ({ ev 11 a0 0 0 with node := a2, who := a3, fet := a4 } : EvtR).cells.toArray) (by kernel_rfl)
        revert h2
        generalize w2.setCells w1.heap.size 31 (ftC a4) = v5
        clear h1
        intro h0
        have x0 := h0.at_ (i := 0) (v := .int .i64 11) rfl
        go_upto_region 41 with (fail)
        clear x0
        have hN : EvtN (w1.heap.size + 1) v5 ({ ev 11 a0 0 0 with node := a2, who := a3, fet := a4 } : EvtR) := ⟨RowN.none_ _ _ _, RowN.none_ _ _ _, RowN.none_ _ _ _, RowN.none_ _ _ _, RowN.none_ _ _ _, RowN.none_ _ _ _, RowN.none_ _ _ _, RowN.none_ _ _ _, RowN.none_ _ _ _⟩
        have e : pEvt s = (({ ev 11 a0 0 0 with node := a2, who := a3, fet := a4 } : EvtR).abs, s5) := by unfold pEvt; simp only [q0.out, q1.out, hkk.out]; simp [pNode, pWho, pBody, q2.out, q3.out, q4.out]; rfl
        have hR := h0.older bR2 (by omega) (by omega)
        have hX := h0.blk
        have hR' : v5.heap[w.heap.size]? = some (Obj.cells zEvtR.cells.toArray 45) := hR
        have hX' : v5.heap[w1.heap.size]? = some (Obj.cells ({ ev 11 a0 0 0 with node := a2, who := a3, fet := a4 } : EvtR).cells.toArray 45) := hX
        with_reducible refine wp_region_lit ?_
        with_reducible refine wpList_load_row rfl 45 (.tmp 3) rfl w1.heap.size (by kernel_rfl) 45 ({ ev 11 a0 0 0 with node := a2, who := a3, fet := a4 } : EvtR).cells.toArray (0, 0) _ hX' Tryz.underlying45 (by kernel_rfl) (by kernel_rfl) ?_
        go_frame
        with_reducible refine wpList_store_row rfl 45 (.tmp 2) (.tmp 106) rfl w.heap.size ({ ev 11 a0 0 0 with node := a2, who := a3, fet := a4 } : EvtR).cells.toArray (by kernel_rfl) (by kernel_rfl) 45 zEvtR.cells.toArray hR' (by kernel_rfl) (by kernel_rfl) (by kernel_rfl) (wpList_nil ?_)
        have bT : (v5.setRow (w.heap.size) ({ ev 11 a0 0 0 with node := a2, who := a3, fet := a4 } : EvtR).cells.toArray).heap[w.heap.size]? = some (Obj.cells ({ ev 11 a0 0 0 with node := a2, who := a3, fet := a4 } : EvtR).cells.toArray 45) := hR.setRow_ _
        simp only [Act.put]
        repeat go_step
        (try simp only [Exit.inBlock, Exit.then])
        refine bodyPost_ret (results_cell_row rfl _ _ (w.heap.size) 45 ({ ev 11 a0 0 0 with node := a2, who := a3, fet := a4 } : EvtR).cells.toArray (0, 0) _ (by kernel_rfl) bT Tryz.underlying45 (by kernel_rfl) (by kernel_rfl)) rfl ?_
        have hH := (H1.call h0.done).setRow (Nat.le_refl w.heap.size) ({ ev 11 a0 0 0 with node := a2, who := a3, fet := a4 } : EvtR).cells.toArray
        rw [e]
        exact ⟨({ ev 11 a0 0 0 with node := a2, who := a3, fet := a4 } : EvtR), rfl, rfl, (hN.setRow (by omega) _).older (by omega), hH.done⟩
      · -- kind 12
        subst hk
        have h0 : Holds w0 (w1.alloc (.cells zEvtR.cells.toArray 45)) g w1.heap.size (fun k => F k ∨ w.heap.size ≤ k) 45 s2 (ev 12 a0 0 0).cells.toArray v2 := h0
        obtain ⟨a2, s3, q2⟩ : ∃ a s', pNum s2 = (a, s') := ⟨_, _, rfl⟩
        have x0 := h0.at_ (i := 0) (v := .int .i64 12) rfl
        go_upto_region 10 with (fail)
        clear x0
        have C := rint_calls w0 v2 g _ s2 h0.ok hS
        rw [q2] at C
        replace q2 := Lib.hid q2
        go_upto_region 11 with (go_at_call 81; refine C.mono ?_; rintro _ w2 ⟨rfl, R⟩; have h1 := h0.call R; have k0 := h1.at_ (i := 2) (v := .int .i64 0) rfl; have f0 := h1.blk.frozen 2; have y0 := h1.at_ (i := 0) (v := .int .i64 12) rfl; clear h0 R C)
        with_reducible refine code_abs (fun w' => Holds w0 (w1.alloc (.cells zEvtR.cells.toArray 45)) g w1.heap.size (fun k => F k ∨ w.heap.size ≤ k) 45 s3 ({ ev 12 a0 0 0 with node := a2 } : EvtR).cells.toArray w') ?_ ?_
        · exact (h1.set 2 (.int .i64 a2)).to (by kernel_rfl)
        clear h1 y0 k0 f0
        rintro v3 h0
        obtain ⟨a3, s4, q3⟩ : ∃ a s', pNum s3 = (a, s') := ⟨_, _, rfl⟩
        have x0 := h0.at_ (i := 0) (v := .int .i64 12) rfl
        go_upto_region 12 with (fail)
        clear x0
        have C := rint_calls w0 v3 g _ s3 h0.ok hS
        rw [q3] at C
        replace q3 := Lib.hid q3
        go_upto_region 13 with (go_at_call 81; refine C.mono ?_; rintro _ w2 ⟨rfl, R⟩; have h1 := h0.call R; have k0 := h1.at_ (i := 3) (v := .int .i64 0) rfl; have f0 := h1.blk.frozen 3; have y0 := h1.at_ (i := 0) (v := .int .i64 12) rfl; clear h0 R C)
        with_reducible refine code_abs (fun w' => Holds w0 (w1.alloc (.cells zEvtR.cells.toArray 45)) g w1.heap.size (fun k => F k ∨ w.heap.size ≤ k) 45 s4 ({ ev 12 a0 0 0 with node := a2, who := a3 } : EvtR).cells.toArray w') ?_ ?_
        · exact (h1.set 3 (.int .i64 a3)).to (by kernel_rfl)
        clear h1 y0 k0 f0
        rintro v4 h0
        obtain ⟨a4, s5, q4⟩ : ∃ a s', pRep s4 = (a, s') := ⟨_, _, rfl⟩
        have x0 := h0.at_ (i := 0) (v := .int .i64 12) rfl
        go_upto_region 40 with (fail)
        clear x0
        have C := rrep_calls w0 v4 g _ s4 h0.ok hS
        rw [q4] at C
        replace q4 := Lib.hid q4
        with_reducible refine wp_region_lit ?_
        with_reducible refine wpList_cutAt 3 ?_
        simp only [List.take_succ_cons, List.take_zero, List.drop_succ_cons, List.drop_zero]
        go_wp2_with (go_at_call 90; refine C.mono ?_; rintro _ w2 ⟨r4, rfl, l4, m4, R⟩; have h1 := h0.call R; replace l4 := Lib.hid l4; have n4 := m4.older (B' := w1.heap.size + 1) (by have := h0.size; omega); clear h0 R C m4)
        with_reducible refine CutQ.go_ ?_
        with_reducible refine wpList_store_mid rfl 42 (.tmp 105) (.tmp 104) rfl w1.heap.size 38 r4.cells.toArray (by kernel_rfl) (by kernel_rfl) (h1.blk.there 38 r4.cells.toArray.size (of_decide_eq_true (by kernel_rfl))) (by kernel_rfl) (by kernel_rfl) (wpList_nil ?_)
        have h2 := (h1.mid r4.cells 38).to (cs' := ({ ev 12 a0 0 0 with node := a2, who := a3, rep := r4 } : EvtR).cells.toArray) (by kernel_rfl)
        have n4 := RowN.cells (g := w1.heap.size) (o := 38) (vs := r4.cells) n4 (Nat.lt_succ_self _)
        revert h2 n4
        generalize w2.setCells w1.heap.size 38 r4.cells = v5
        clear h1
        intro h0 n4
        have x0 := h0.at_ (i := 0) (v := .int .i64 12) rfl
        go_upto_region 41 with (fail)
        clear x0
        have hN : EvtN (w1.heap.size + 1) v5 ({ ev 12 a0 0 0 with node := a2, who := a3, rep := r4 } : EvtR) := ⟨RowN.none_ _ _ _, RowN.none_ _ _ _, RowN.none_ _ _ _, RowN.none_ _ _ _, RowN.none_ _ _ _, RowN.none_ _ _ _, n4, RowN.none_ _ _ _, RowN.none_ _ _ _⟩
        have e : pEvt s = (({ ev 12 a0 0 0 with node := a2, who := a3, rep := r4 } : EvtR).abs, s5) := by unfold pEvt; simp only [q0.out, q1.out, hkk.out]; simp [pNode, pWho, pBody, q2.out, q3.out, q4.out]; simp only [ev, EvtR.abs, ← l4.out]; rfl
        have hR := h0.older bR2 (by omega) (by omega)
        have hX := h0.blk
        have hR' : v5.heap[w.heap.size]? = some (Obj.cells zEvtR.cells.toArray 45) := hR
        have hX' : v5.heap[w1.heap.size]? = some (Obj.cells ({ ev 12 a0 0 0 with node := a2, who := a3, rep := r4 } : EvtR).cells.toArray 45) := hX
        with_reducible refine wp_region_lit ?_
        with_reducible refine wpList_load_row rfl 45 (.tmp 3) rfl w1.heap.size (by kernel_rfl) 45 ({ ev 12 a0 0 0 with node := a2, who := a3, rep := r4 } : EvtR).cells.toArray (0, 0) _ hX' Tryz.underlying45 (by kernel_rfl) (by kernel_rfl) ?_
        go_frame
        with_reducible refine wpList_store_row rfl 45 (.tmp 2) (.tmp 106) rfl w.heap.size ({ ev 12 a0 0 0 with node := a2, who := a3, rep := r4 } : EvtR).cells.toArray (by kernel_rfl) (by kernel_rfl) 45 zEvtR.cells.toArray hR' (by kernel_rfl) (by kernel_rfl) (by kernel_rfl) (wpList_nil ?_)
        have bT : (v5.setRow (w.heap.size) ({ ev 12 a0 0 0 with node := a2, who := a3, rep := r4 } : EvtR).cells.toArray).heap[w.heap.size]? = some (Obj.cells ({ ev 12 a0 0 0 with node := a2, who := a3, rep := r4 } : EvtR).cells.toArray 45) := hR.setRow_ _
        simp only [Act.put]
        repeat go_step
        (try simp only [Exit.inBlock, Exit.then])
        refine bodyPost_ret (results_cell_row rfl _ _ (w.heap.size) 45 ({ ev 12 a0 0 0 with node := a2, who := a3, rep := r4 } : EvtR).cells.toArray (0, 0) _ (by kernel_rfl) bT Tryz.underlying45 (by kernel_rfl) (by kernel_rfl)) rfl ?_
        have hH := (H1.call h0.done).setRow (Nat.le_refl w.heap.size) ({ ev 12 a0 0 0 with node := a2, who := a3, rep := r4 } : EvtR).cells.toArray
        rw [e]
        exact ⟨({ ev 12 a0 0 0 with node := a2, who := a3, rep := r4 } : EvtR), rfl, rfl, (hN.setRow (by omega) _).older (by omega), hH.done⟩
      · -- kind 13
        subst hk
        have h0 : Holds w0 (w1.alloc (.cells zEvtR.cells.toArray 45)) g w1.heap.size (fun k => F k ∨ w.heap.size ≤ k) 45 s2 (ev 13 a0 0 0).cells.toArray v2 := h0
        obtain ⟨a2, s3, q2⟩ : ∃ a s', pNum s2 = (a, s') := ⟨_, _, rfl⟩
        have x0 := h0.at_ (i := 0) (v := .int .i64 13) rfl
        go_upto_region 10 with (fail)
        clear x0
        have C := rint_calls w0 v2 g _ s2 h0.ok hS
        rw [q2] at C
        replace q2 := Lib.hid q2
        go_upto_region 11 with (go_at_call 81; refine C.mono ?_; rintro _ w2 ⟨rfl, R⟩; have h1 := h0.call R; have k0 := h1.at_ (i := 2) (v := .int .i64 0) rfl; have f0 := h1.blk.frozen 2; have y0 := h1.at_ (i := 0) (v := .int .i64 13) rfl; clear h0 R C)
        with_reducible refine code_abs (fun w' => Holds w0 (w1.alloc (.cells zEvtR.cells.toArray 45)) g w1.heap.size (fun k => F k ∨ w.heap.size ≤ k) 45 s3 ({ ev 13 a0 0 0 with node := a2 } : EvtR).cells.toArray w') ?_ ?_
        · exact (h1.set 2 (.int .i64 a2)).to (by kernel_rfl)
        clear h1 y0 k0 f0
        rintro v3 h0
        obtain ⟨a3, s4, q3⟩ : ∃ a s', pNum s3 = (a, s') := ⟨_, _, rfl⟩
        have x0 := h0.at_ (i := 0) (v := .int .i64 13) rfl
        go_upto_region 12 with (fail)
        clear x0
        have C := rint_calls w0 v3 g _ s3 h0.ok hS
        rw [q3] at C
        replace q3 := Lib.hid q3
        go_upto_region 13 with (go_at_call 81; refine C.mono ?_; rintro _ w2 ⟨rfl, R⟩; have h1 := h0.call R; have k0 := h1.at_ (i := 3) (v := .int .i64 0) rfl; have f0 := h1.blk.frozen 3; have y0 := h1.at_ (i := 0) (v := .int .i64 13) rfl; clear h0 R C)
        with_reducible refine code_abs (fun w' => Holds w0 (w1.alloc (.cells zEvtR.cells.toArray 45)) g w1.heap.size (fun k => F k ∨ w.heap.size ≤ k) 45 s4 ({ ev 13 a0 0 0 with node := a2, who := a3 } : EvtR).cells.toArray w') ?_ ?_
        · exact (h1.set 3 (.int .i64 a3)).to (by kernel_rfl)
        clear h1 y0 k0 f0
        rintro v4 h0
        obtain ⟨a4, s5, q4⟩ : ∃ a s', pText s4 = (a, s') := ⟨_, _, rfl⟩
        have x0 := h0.at_ (i := 0) (v := .int .i64 13) rfl
        go_upto_region 33 with (fail)
        clear x0
        have C := rbytesR_calls w0 v4 g _ s4 h0.ok hS
        rw [q4] at C
        replace q4 := Lib.hid q4
        go_upto_region 41 with (go_at_call 84; refine C.mono ?_; rintro _ w2 ⟨r4, rfl, l4, m4, R⟩; have h1 := h0.call R; replace l4 := Lib.hid l4; have n4 := m4.older (B' := w1.heap.size + 1) (by have := h0.size; omega); have k0 := h1.at_ (i := 53) (v := .slice none 0 0) rfl; have f0 := h1.blk.frozen 53; have y0 := h1.at_ (i := 0) (v := .int .i64 13) rfl; clear h0 R C m4)
        with_reducible refine code_abs (fun w' => Holds w0 (w1.alloc (.cells zEvtR.cells.toArray 45)) g w1.heap.size (fun k => F k ∨ w.heap.size ≤ k) 45 s5 ({ ev 13 a0 0 0 with node := a2, who := a3, bytes := r4 } : EvtR).cells.toArray w' ∧ RowN byC (w1.heap.size + 1) w' r4) ?_ ?_
        · exact ⟨(h1.set 53 (.slice r4.A r4.l.length r4.cap)).to (by kernel_rfl), (n4.cell (p := ⟨w1.heap.size, 53, none⟩) (Nat.lt_succ_self _) (.slice r4.A r4.l.length r4.cap))⟩
        clear h1 y0 k0 f0 n4
        rintro v5 ⟨h0, n4⟩
        have hN : EvtN (w1.heap.size + 1) v5 ({ ev 13 a0 0 0 with node := a2, who := a3, bytes := r4 } : EvtR) := ⟨RowN.none_ _ _ _, RowN.none_ _ _ _, RowN.none_ _ _ _, RowN.none_ _ _ _, RowN.none_ _ _ _, RowN.none_ _ _ _, RowN.none_ _ _ _, n4, RowN.none_ _ _ _⟩
        have e : pEvt s = (({ ev 13 a0 0 0 with node := a2, who := a3, bytes := r4 } : EvtR).abs, s5) := by unfold pEvt; simp only [q0.out, q1.out, hkk.out]; simp [pNode, pWho, pBody, q2.out, q3.out, q4.out]; simp only [ev, EvtR.abs, ← l4.out]; rfl
        have hR := h0.older bR2 (by omega) (by omega)
        have hX := h0.blk
        have hR' : v5.heap[w.heap.size]? = some (Obj.cells zEvtR.cells.toArray 45) := hR
        have hX' : v5.heap[w1.heap.size]? = some (Obj.cells ({ ev 13 a0 0 0 with node := a2, who := a3, bytes := r4 } : EvtR).cells.toArray 45) := hX
        with_reducible refine wp_region_lit ?_
        with_reducible refine wpList_load_row rfl 45 (.tmp 3) rfl w1.heap.size (by kernel_rfl) 45 ({ ev 13 a0 0 0 with node := a2, who := a3, bytes := r4 } : EvtR).cells.toArray (0, 0) _ hX' Tryz.underlying45 (by kernel_rfl) (by kernel_rfl) ?_
        go_frame
        with_reducible refine wpList_store_row rfl 45 (.tmp 2) (.tmp 106) rfl w.heap.size ({ ev 13 a0 0 0 with node := a2, who := a3, bytes := r4 } : EvtR).cells.toArray (by kernel_rfl) (by kernel_rfl) 45 zEvtR.cells.toArray hR' (by kernel_rfl) (by kernel_rfl) (by kernel_rfl) (wpList_nil ?_)
        have bT : (v5.setRow (w.heap.size) ({ ev 13 a0 0 0 with node := a2, who := a3, bytes := r4 } : EvtR).cells.toArray).heap[w.heap.size]? = some (Obj.cells ({ ev 13 a0 0 0 with node := a2, who := a3, bytes := r4 } : EvtR).cells.toArray 45) := hR.setRow_ _
        simp only [Act.put]
        repeat go_step
        (try simp only [Exit.inBlock, Exit.then])
        refine bodyPost_ret (results_cell_row rfl _ _ (w.heap.size) 45 ({ ev 13 a0 0 0 with node := a2, who := a3, bytes := r4 } : EvtR).cells.toArray (0, 0) _ (by kernel_rfl) bT Tryz.underlying45 (by kernel_rfl) (by kernel_rfl)) rfl ?_
        have hH := (H1.call h0.done).setRow (Nat.le_refl w.heap.size) ({ ev 13 a0 0 0 with node := a2, who := a3, bytes := r4 } : EvtR).cells.toArray
        rw [e]
        exact ⟨({ ev 13 a0 0 0 with node := a2, who := a3, bytes := r4 } : EvtR), rfl, rfl, (hN.setRow (by omega) _).older (by omega), hH.done⟩
      · -- kind 14
        subst hk
        have h0 : Holds w0 (w1.alloc (.cells zEvtR.cells.toArray 45)) g w1.heap.size (fun k => F k ∨ w.heap.size ≤ k) 45 s2 (ev 14 a0 0 0).cells.toArray v2 := h0
        obtain ⟨a2, s3, q2⟩ : ∃ a s', pNum s2 = (a, s') := ⟨_, _, rfl⟩
        have x0 := h0.at_ (i := 0) (v := .int .i64 14) rfl
        go_upto_region 10 with (fail)
        clear x0
        have C := rint_calls w0 v2 g _ s2 h0.ok hS
        rw [q2] at C
        replace q2 := Lib.hid q2
        go_upto_region 11 with (go_at_call 81; refine C.mono ?_; rintro _ w2 ⟨rfl, R⟩; have h1 := h0.call R; have k0 := h1.at_ (i := 2) (v := .int .i64 0) rfl; have f0 := h1.blk.frozen 2; have y0 := h1.at_ (i := 0) (v := .int .i64 14) rfl; clear h0 R C)
        with_reducible refine code_abs (fun w' => Holds w0 (w1.alloc (.cells zEvtR.cells.toArray 45)) g w1.heap.size (fun k => F k ∨ w.heap.size ≤ k) 45 s3 ({ ev 14 a0 0 0 with node := a2 } : EvtR).cells.toArray w') ?_ ?_
        · exact (h1.set 2 (.int .i64 a2)).to (by kernel_rfl)
        clear h1 y0 k0 f0
        rintro v3 h0
        obtain ⟨a3, s4, q3⟩ : ∃ a s', pNum s3 = (a, s') := ⟨_, _, rfl⟩
        have x0 := h0.at_ (i := 0) (v := .int .i64 14) rfl
        go_upto_region 12 with (fail)
        clear x0
        have C := rint_calls w0 v3 g _ s3 h0.ok hS
        rw [q3] at C
        replace q3 := Lib.hid q3
        go_upto_region 13 with (go_at_call 81; refine C.mono ?_; rintro _ w2 ⟨rfl, R⟩; have h1 := h0.call R; have k0 := h1.at_ (i := 3) (v := .int .i64 0) rfl; have f0 := h1.blk.frozen 3; have y0 := h1.at_ (i := 0) (v := .int .i64 14) rfl; clear h0 R C)
        with_reducible refine code_abs (fun w' => Holds w0 (w1.alloc (.cells zEvtR.cells.toArray 45)) g w1.heap.size (fun k => F k ∨ w.heap.size ≤ k) 45 s4 ({ ev 14 a0 0 0 with node := a2, who := a3 } : EvtR).cells.toArray w') ?_ ?_
        · exact (h1.set 3 (.int .i64 a3)).to (by kernel_rfl)
        clear h1 y0 k0 f0
        rintro v4 h0
        obtain ⟨a4, s5, q4⟩ : ∃ a s', pTruth s4 = (a, s') := ⟨_, _, rfl⟩
        have x0 := h0.at_ (i := 0) (v := .int .i64 14) rfl
        go_upto_region 36 with (fail)
        clear x0
        have C := rtruth_calls w0 v4 g _ s4 h0.ok
        rw [q4] at C
        replace q4 := Lib.hid q4
        go_upto_region 41 with (go_at_call 85; refine C.mono ?_; rintro _ w2 ⟨rfl, R⟩; have h1 := h0.call R; have k0 := h1.at_ (i := 56) (v := .bool false) rfl; have f0 := h1.blk.frozen 56; have y0 := h1.at_ (i := 0) (v := .int .i64 14) rfl; clear h0 R C)
        with_reducible refine code_abs (fun w' => Holds w0 (w1.alloc (.cells zEvtR.cells.toArray 45)) g w1.heap.size (fun k => F k ∨ w.heap.size ≤ k) 45 s5 ({ ev 14 a0 0 0 with node := a2, who := a3, whole := a4 } : EvtR).cells.toArray w') ?_ ?_
        · exact (h1.set 56 (.bool a4)).to (by kernel_rfl)
        clear h1 y0 k0 f0
        rintro v5 h0
        have hN : EvtN (w1.heap.size + 1) v5 ({ ev 14 a0 0 0 with node := a2, who := a3, whole := a4 } : EvtR) := ⟨RowN.none_ _ _ _, RowN.none_ _ _ _, RowN.none_ _ _ _, RowN.none_ _ _ _, RowN.none_ _ _ _, RowN.none_ _ _ _, RowN.none_ _ _ _, RowN.none_ _ _ _, RowN.none_ _ _ _⟩
        have e : pEvt s = (({ ev 14 a0 0 0 with node := a2, who := a3, whole := a4 } : EvtR).abs, s5) := by unfold pEvt; simp only [q0.out, q1.out, hkk.out]; simp [pNode, pWho, pBody, q2.out, q3.out, q4.out]; rfl
        have hR := h0.older bR2 (by omega) (by omega)
        have hX := h0.blk
        have hR' : v5.heap[w.heap.size]? = some (Obj.cells zEvtR.cells.toArray 45) := hR
        have hX' : v5.heap[w1.heap.size]? = some (Obj.cells ({ ev 14 a0 0 0 with node := a2, who := a3, whole := a4 } : EvtR).cells.toArray 45) := hX
        with_reducible refine wp_region_lit ?_
        with_reducible refine wpList_load_row rfl 45 (.tmp 3) rfl w1.heap.size (by kernel_rfl) 45 ({ ev 14 a0 0 0 with node := a2, who := a3, whole := a4 } : EvtR).cells.toArray (0, 0) _ hX' Tryz.underlying45 (by kernel_rfl) (by kernel_rfl) ?_
        go_frame
        with_reducible refine wpList_store_row rfl 45 (.tmp 2) (.tmp 106) rfl w.heap.size ({ ev 14 a0 0 0 with node := a2, who := a3, whole := a4 } : EvtR).cells.toArray (by kernel_rfl) (by kernel_rfl) 45 zEvtR.cells.toArray hR' (by kernel_rfl) (by kernel_rfl) (by kernel_rfl) (wpList_nil ?_)
        have bT : (v5.setRow (w.heap.size) ({ ev 14 a0 0 0 with node := a2, who := a3, whole := a4 } : EvtR).cells.toArray).heap[w.heap.size]? = some (Obj.cells ({ ev 14 a0 0 0 with node := a2, who := a3, whole := a4 } : EvtR).cells.toArray 45) := hR.setRow_ _
        simp only [Act.put]
        repeat go_step
        (try simp only [Exit.inBlock, Exit.then])
        refine bodyPost_ret (results_cell_row rfl _ _ (w.heap.size) 45 ({ ev 14 a0 0 0 with node := a2, who := a3, whole := a4 } : EvtR).cells.toArray (0, 0) _ (by kernel_rfl) bT Tryz.underlying45 (by kernel_rfl) (by kernel_rfl)) rfl ?_
        have hH := (H1.call h0.done).setRow (Nat.le_refl w.heap.size) ({ ev 14 a0 0 0 with node := a2, who := a3, whole := a4 } : EvtR).cells.toArray
        rw [e]
        exact ⟨({ ev 14 a0 0 0 with node := a2, who := a3, whole := a4 } : EvtR), rfl, rfl, (hN.setRow (by omega) _).older (by omega), hH.done⟩
      · -- kind 15
        subst hk
        have h0 : Holds w0 (w1.alloc (.cells zEvtR.cells.toArray 45)) g w1.heap.size (fun k => F k ∨ w.heap.size ≤ k) 45 s2 (ev 15 a0 0 0).cells.toArray v2 := h0
        obtain ⟨a2, s3, q2⟩ : ∃ a s', pNum s2 = (a, s') := ⟨_, _, rfl⟩
        have x0 := h0.at_ (i := 0) (v := .int .i64 15) rfl
        go_upto_region 10 with (fail)
        clear x0
        have C := rint_calls w0 v2 g _ s2 h0.ok hS
        rw [q2] at C
        replace q2 := Lib.hid q2
        go_upto_region 11 with (go_at_call 81; refine C.mono ?_; rintro _ w2 ⟨rfl, R⟩; have h1 := h0.call R; have k0 := h1.at_ (i := 2) (v := .int .i64 0) rfl; have f0 := h1.blk.frozen 2; have y0 := h1.at_ (i := 0) (v := .int .i64 15) rfl; clear h0 R C)
        with_reducible refine code_abs (fun w' => Holds w0 (w1.alloc (.cells zEvtR.cells.toArray 45)) g w1.heap.size (fun k => F k ∨ w.heap.size ≤ k) 45 s3 ({ ev 15 a0 0 0 with node := a2 } : EvtR).cells.toArray w') ?_ ?_
        · exact (h1.set 2 (.int .i64 a2)).to (by kernel_rfl)
        clear h1 y0 k0 f0
        rintro v3 h0
        obtain ⟨a3, s4, q3⟩ : ∃ a s', pNum s3 = (a, s') := ⟨_, _, rfl⟩
        have x0 := h0.at_ (i := 0) (v := .int .i64 15) rfl
        go_upto_region 12 with (fail)
        clear x0
        have C := rint_calls w0 v3 g _ s3 h0.ok hS
        rw [q3] at C
        replace q3 := Lib.hid q3
        go_upto_region 13 with (go_at_call 81; refine C.mono ?_; rintro _ w2 ⟨rfl, R⟩; have h1 := h0.call R; have k0 := h1.at_ (i := 3) (v := .int .i64 0) rfl; have f0 := h1.blk.frozen 3; have y0 := h1.at_ (i := 0) (v := .int .i64 15) rfl; clear h0 R C)
        with_reducible refine code_abs (fun w' => Holds w0 (w1.alloc (.cells zEvtR.cells.toArray 45)) g w1.heap.size (fun k => F k ∨ w.heap.size ≤ k) 45 s4 ({ ev 15 a0 0 0 with node := a2, who := a3 } : EvtR).cells.toArray w') ?_ ?_
        · exact (h1.set 3 (.int .i64 a3)).to (by kernel_rfl)
        clear h1 y0 k0 f0
        rintro v4 h0
        have x0 := h0.at_ (i := 0) (v := .int .i64 15) rfl
        go_upto_region 41 with (fail)
        clear x0
        have hN : EvtN (w1.heap.size + 1) v4 ({ ev 15 a0 0 0 with node := a2, who := a3 } : EvtR) := ⟨RowN.none_ _ _ _, RowN.none_ _ _ _, RowN.none_ _ _ _, RowN.none_ _ _ _, RowN.none_ _ _ _, RowN.none_ _ _ _, RowN.none_ _ _ _, RowN.none_ _ _ _, RowN.none_ _ _ _⟩
        have e : pEvt s = (({ ev 15 a0 0 0 with node := a2, who := a3 } : EvtR).abs, s4) := by unfold pEvt; simp only [q0.out, q1.out, hkk.out]; simp [pNode, pWho, pBody, q2.out, q3.out]; rfl
        have hR := h0.older bR2 (by omega) (by omega)
        have hX := h0.blk
        have hR' : v4.heap[w.heap.size]? = some (Obj.cells zEvtR.cells.toArray 45) := hR
        have hX' : v4.heap[w1.heap.size]? = some (Obj.cells ({ ev 15 a0 0 0 with node := a2, who := a3 } : EvtR).cells.toArray 45) := hX
        with_reducible refine wp_region_lit ?_
        with_reducible refine wpList_load_row rfl 45 (.tmp 3) rfl w1.heap.size (by kernel_rfl) 45 ({ ev 15 a0 0 0 with node := a2, who := a3 } : EvtR).cells.toArray (0, 0) _ hX' Tryz.underlying45 (by kernel_rfl) (by kernel_rfl) ?_
        go_frame
        with_reducible refine wpList_store_row rfl 45 (.tmp 2) (.tmp 106) rfl w.heap.size ({ ev 15 a0 0 0 with node := a2, who := a3 } : EvtR).cells.toArray (by kernel_rfl) (by kernel_rfl) 45 zEvtR.cells.toArray hR' (by kernel_rfl) (by kernel_rfl) (by kernel_rfl) (wpList_nil ?_)
        have bT : (v4.setRow (w.heap.size) ({ ev 15 a0 0 0 with node := a2, who := a3 } : EvtR).cells.toArray).heap[w.heap.size]? = some (Obj.cells ({ ev 15 a0 0 0 with node := a2, who := a3 } : EvtR).cells.toArray 45) := hR.setRow_ _
        simp only [Act.put]
        repeat go_step
        (try simp only [Exit.inBlock, Exit.then])
        refine bodyPost_ret (results_cell_row rfl _ _ (w.heap.size) 45 ({ ev 15 a0 0 0 with node := a2, who := a3 } : EvtR).cells.toArray (0, 0) _ (by kernel_rfl) bT Tryz.underlying45 (by kernel_rfl) (by kernel_rfl)) rfl ?_
        have hH := (H1.call h0.done).setRow (Nat.le_refl w.heap.size) ({ ev 15 a0 0 0 with node := a2, who := a3 } : EvtR).cells.toArray
        rw [e]
        exact ⟨({ ev 15 a0 0 0 with node := a2, who := a3 } : EvtR), rfl, rfl, (hN.setRow (by omega) _).older (by omega), hH.done⟩
      · -- kind 16
        subst hk
        have h0 : Holds w0 (w1.alloc (.cells zEvtR.cells.toArray 45)) g w1.heap.size (fun k => F k ∨ w.heap.size ≤ k) 45 s2 (ev 16 a0 0 0).cells.toArray v2 := h0
        obtain ⟨a2, s3, q2⟩ : ∃ a s', pNum s2 = (a, s') := ⟨_, _, rfl⟩
        have x0 := h0.at_ (i := 0) (v := .int .i64 16) rfl
        go_upto_region 10 with (fail)
        clear x0
        have C := rint_calls w0 v2 g _ s2 h0.ok hS
        rw [q2] at C
        replace q2 := Lib.hid q2
        go_upto_region 11 with (go_at_call 81; refine C.mono ?_; rintro _ w2 ⟨rfl, R⟩; have h1 := h0.call R; have k0 := h1.at_ (i := 2) (v := .int .i64 0) rfl; have f0 := h1.blk.frozen 2; have y0 := h1.at_ (i := 0) (v := .int .i64 16) rfl; clear h0 R C)
        with_reducible refine code_abs (fun w' => Holds w0 (w1.alloc (.cells zEvtR.cells.toArray 45)) g w1.heap.size (fun k => F k ∨ w.heap.size ≤ k) 45 s3 ({ ev 16 a0 0 0 with node := a2 } : EvtR).cells.toArray w') ?_ ?_
        · exact (h1.set 2 (.int .i64 a2)).to (by kernel_rfl)
        clear h1 y0 k0 f0
        rintro v3 h0
        have x0 := h0.at_ (i := 0) (v := .int .i64 16) rfl
        go_upto_region 41 with (fail)
        clear x0
        have hN : EvtN (w1.heap.size + 1) v3 ({ ev 16 a0 0 0 with node := a2 } : EvtR) := ⟨RowN.none_ _ _ _, RowN.none_ _ _ _, RowN.none_ _ _ _, RowN.none_ _ _ _, RowN.none_ _ _ _, RowN.none_ _ _ _, RowN.none_ _ _ _, RowN.none_ _ _ _, RowN.none_ _ _ _⟩
        have e : pEvt s = (({ ev 16 a0 0 0 with node := a2 } : EvtR).abs, s3) := by unfold pEvt; simp only [q0.out, q1.out, hkk.out]; simp [pNode, pWho, pBody, q2.out]; rfl
        have hR := h0.older bR2 (by omega) (by omega)
        have hX := h0.blk
        have hR' : v3.heap[w.heap.size]? = some (Obj.cells zEvtR.cells.toArray 45) := hR
        have hX' : v3.heap[w1.heap.size]? = some (Obj.cells ({ ev 16 a0 0 0 with node := a2 } : EvtR).cells.toArray 45) := hX
        with_reducible refine wp_region_lit ?_
        with_reducible refine wpList_load_row rfl 45 (.tmp 3) rfl w1.heap.size (by kernel_rfl) 45 ({ ev 16 a0 0 0 with node := a2 } : EvtR).cells.toArray (0, 0) _ hX' Tryz.underlying45 (by kernel_rfl) (by kernel_rfl) ?_
        go_frame
        with_reducible refine wpList_store_row rfl 45 (.tmp 2) (.tmp 106) rfl w.heap.size ({ ev 16 a0 0 0 with node := a2 } : EvtR).cells.toArray (by kernel_rfl) (by kernel_rfl) 45 zEvtR.cells.toArray hR' (by kernel_rfl) (by kernel_rfl) (by kernel_rfl) (wpList_nil ?_)
        have bT : (v3.setRow (w.heap.size) ({ ev 16 a0 0 0 with node := a2 } : EvtR).cells.toArray).heap[w.heap.size]? = some (Obj.cells ({ ev 16 a0 0 0 with node := a2 } : EvtR).cells.toArray 45) := hR.setRow_ _
        simp only [Act.put]
        repeat go_step
        (try simp only [Exit.inBlock, Exit.then])
        refine bodyPost_ret (results_cell_row rfl _ _ (w.heap.size) 45 ({ ev 16 a0 0 0 with node := a2 } : EvtR).cells.toArray (0, 0) _ (by kernel_rfl) bT Tryz.underlying45 (by kernel_rfl) (by kernel_rfl)) rfl ?_
        have hH := (H1.call h0.done).setRow (Nat.le_refl w.heap.size) ({ ev 16 a0 0 0 with node := a2 } : EvtR).cells.toArray
        rw [e]
        exact ⟨({ ev 16 a0 0 0 with node := a2 } : EvtR), rfl, rfl, (hN.setRow (by omega) _).older (by omega), hH.done⟩
end Go.Proofs.YtiokbebodblhaaaGreatDoor
