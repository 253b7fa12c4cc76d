/-
  Walk of the document's reader: an event, what its kind has. Printed by docev.py.
-/
import Derived.Test.YtiokbebodblhaaaGreatDoorTraceGa
namespace Go.Proofs.YtiokbebodblhaaaGreatDoor
open Go.RowKit TraceP
attribute [local go_sem] Row.val

/-- The row that bytes of a text make. -/
theorem bytes_row (w : World) (a : Txt) (ha : a.length ≤ 65536) : ∃ r : Row UInt8, r.val = .slice (some ⟨w.heap.size, 0, none⟩) (bstr a).size (grownCap w (bstr a).size 0 5) ∧ r.l = a ∧ RowN byC w.heap.size (Lib.bytesWorld w 5 (bstr a)) r := by
  have sz : (bstr a).size = a.length := bstr_size _
  refine ⟨⟨some ⟨w.heap.size, 0, none⟩, grownCap w (bstr a).size 0 5, a⟩, rfl, rfl, ?_, ?_, ?_⟩
  · show a.length ≤ _
    rw [← sz]
    exact grownCap_ge _ _ _ _
  · exact Nat.le_trans (grownCap_le_maxLen _ _ _ _ (by rw [sz]; unfold maxLen; omega)) (by unfold maxLen; decide)
  · intro _
    refine ⟨w.heap.size, 0, rfl, by rw [Lib.bytesWorld_size]; omega, fun hk => by omega, fun j v hj => ?_⟩
    rw [fl_by] at hj
    have hj2 : j < a.length := by
      have := (List.getElem?_eq_some_iff.1 hj).1
      rwa [cB_len] at this
    rw [Nat.zero_add, Lib.bytesWorld_cell w _ _ j (by rw [sz]; exact hj2), bstr_data, ← hj]
    unfold cB
    rw [List.getElem?_map, List.getElem?_eq_getElem hj2, List.getD_eq_getElem?_getD, List.getElem?_eq_getElem hj2]
    rfl
set_option maxRecDepth 100000 in
set_option maxHeartbeats 6400000 in
theorem devr_calls (L : Nat) (w0 w : World) (g : Nat) (F : Nat → Prop) (s : RdS) (H : DdOK L w0 w g F s) (kk : Nat) (hk16 : kk ≤ 16) (tick node who : Int) :
    Calls Tryz.prog 47 #[.pointer (some ⟨g, 0, none⟩), .agg (ev kk tick node who).cells.toArray] w fun e w' => ∃ x : EvtR, e = .returned (.agg x.cells.toArray) ∧ x.abs = (rBody L kk tick node who s).1 ∧ EvtN w.heap.size w' x ∧ DReads L w0 g F (rBody L kk tick node who s).2 w w' := by
  have hg := H.lt
  have H1 := ((DHold.start H).alloc (.cells (ev kk tick node who).cells.toArray 45)).alloc (.cells zEvtR.cells.toArray 45)
  have hw1 : ((w.alloc (.cells (ev kk tick node who).cells.toArray 45)).alloc (.cells zEvtR.cells.toArray 45)).heap.size = w.heap.size + 2 := by simp
  have bX := (Blk.new w 45 (ev kk tick node who).cells.toArray).alloc (.cells zEvtR.cells.toArray 45)
  have bR : Blk ((w.alloc (.cells (ev kk tick node who).cells.toArray 45)).alloc (.cells zEvtR.cells.toArray 45)) (w.heap.size + 1) 45 zEvtR.cells.toArray := by have := Blk.new (w.alloc (.cells (ev kk tick node who).cells.toArray 45)) 45 zEvtR.cells.toArray; simpa using this
  have lo := H.below.size
  have h0 : DHolds L w0 ((w.alloc (.cells (ev kk tick node who).cells.toArray 45)).alloc (.cells zEvtR.cells.toArray 45)) g w.heap.size (fun k => F k ∨ w.heap.size ≤ k) 45 s (ev kk tick node who).cells.toArray ((w.alloc (.cells (ev kk tick node who).cells.toArray 45)).alloc (.cells zEvtR.cells.toArray 45)) :=
    ⟨H1.ok.mono (fun k hk => hk.elim id .inr) (.inl (.inl H.hF)), bX, Kept.refl _ _, hg, .inl H.hF, lo, by rw [hw1]; omega⟩
  go_enter Tryz.func47, Tryz.ntmps47
  unfold Tryz.f47
  go_step
  go_step
  with_reducible refine wp_region_lit ?_
  with_reducible refine wpList_cutAt 2 ?_
  simp only [List.take_succ_cons, List.take_zero, List.drop_succ_cons, List.drop_zero]
  repeat (first | go_values | go_skip | go_guarded | go_step | go_upon)
  with_reducible refine CutQ.go_ (wpList_nil ?_)
  with_reducible refine q_abs (fun w' => w' = (w.alloc (.cells (ev kk tick node who).cells.toArray 45)).alloc (.cells zEvtR.cells.toArray 45)) ?_ ?_
  · rfl
  intro w1 hw1e
  rw [← hw1e] at hw1 h0 bR H1
  clear bX hw1e
  with_reducible refine q_abs (fun w' => DHolds L w0 w1 g w.heap.size (fun k => F k ∨ w.heap.size ≤ k) 45 s (ev kk tick node who).cells.toArray w') h0 ?_
  clear h0
  intro v0 h0
  obtain ⟨s0, rfl⟩ : ∃ x, x = s := ⟨_, rfl⟩
  have K17 : kk = 0 ∨ kk = 1 ∨ kk = 2 ∨ kk = 3 ∨ kk = 4 ∨ kk = 5 ∨ kk = 6 ∨ kk = 7 ∨ kk = 8 ∨ kk = 9 ∨ kk = 10 ∨ kk = 11 ∨ kk = 12 ∨ kk = 13 ∨ kk = 14 ∨ kk = 15 ∨ kk = 16 := by omega
  rcases K17 with hk | hk | hk | hk | hk | hk | hk | hk | hk | hk | hk | hk | hk | hk | hk | hk | hk
  · -- kind 0
    subst hk
    have h0 : DHolds L w0 w1 g w.heap.size (fun k => F k ∨ w.heap.size ≤ k) 45 s0 (ev 0 tick node who).cells.toArray v0 := h0
    have x0 := h0.at_ (i := 0) (v := .int .i64 0) rfl
    go_upto_region 35 with (fail)
    clear x0
    have hN : EvtN (w.heap.size + 2) v0 ((ev 0 tick node who) : EvtR) := ⟨RowN.none_ _ _ _, RowN.none_ _ _ _, RowN.none_ _ _ _, RowN.none_ _ _ _, RowN.none_ _ _ _, RowN.none_ _ _ _, RowN.none_ _ _ _, RowN.none_ _ _ _, RowN.none_ _ _ _⟩
    have e : rBody L 0 tick node who s0 = (((ev 0 tick node who) : EvtR).abs, s0) := by simp only [rBody]; rfl
    have hR : Blk v0 (w.heap.size + 1) 45 zEvtR.cells.toArray := (h0.kept.block (w.heap.size + 1) (by omega) (by omega)).trans bR
    have hX := h0.blk
    have hR' : v0.heap[(w.heap.size + 1)]? = some (Obj.cells zEvtR.cells.toArray 45) := hR
    have hX' : v0.heap[w.heap.size]? = some (Obj.cells ((ev 0 tick node who) : EvtR).cells.toArray 45) := hX
    with_reducible refine wp_region_lit ?_
    with_reducible refine wpList_load_row rfl 45 (.tmp 3) rfl w.heap.size (by kernel_rfl) 45 ((ev 0 tick node who) : EvtR).cells.toArray (0, 0) _ hX' Tryz.underlying45 (by kernel_rfl) (by kernel_rfl) ?_
    go_frame
    with_reducible refine wpList_store_row rfl 45 (.tmp 4) (.tmp 115) rfl (w.heap.size + 1) ((ev 0 tick node who) : EvtR).cells.toArray (by kernel_rfl) (by kernel_rfl) 45 zEvtR.cells.toArray hR' (by kernel_rfl) (by kernel_rfl) (by kernel_rfl) (wpList_nil ?_)
    have bT : (v0.setRow (w.heap.size + 1) ((ev 0 tick node who) : EvtR).cells.toArray).heap[(w.heap.size + 1)]? = some (Obj.cells ((ev 0 tick node who) : EvtR).cells.toArray 45) := hR.setRow_ _
    simp only [Act.put]
    repeat go_step
    (try simp only [Exit.inBlock, Exit.then])
    refine bodyPost_ret (results_cell_row rfl _ _ (w.heap.size + 1) 45 ((ev 0 tick node who) : EvtR).cells.toArray (0, 0) _ (by kernel_rfl) bT Tryz.underlying45 (by kernel_rfl) (by kernel_rfl)) rfl ?_
    have hH := (DHolds.hold H1 h0 (Nat.le_refl _)).setRow (Nat.le_succ w.heap.size) ((ev 0 tick node who) : EvtR).cells.toArray
    rw [e]
    exact ⟨((ev 0 tick node who) : EvtR), rfl, rfl, (hN.setRow (by omega) _).older (by omega), hH.done⟩
  · -- kind 1
    subst hk
    have h0 : DHolds L w0 w1 g w.heap.size (fun k => F k ∨ w.heap.size ≤ k) 45 s0 (ev 1 tick node who).cells.toArray v0 := h0
    have x0 := h0.at_ (i := 0) (v := .int .i64 1) rfl
    go_upto_region 3 with (fail)
    clear x0
    obtain ⟨a0, s1, q0⟩ : ∃ a s', rText s0 = (a, s') := ⟨_, _, rfl⟩
    have CW := dw_calls L w0 v0 g _ s0 h0.ok
    have hsh := h0.ok.head
    have G3 : rTextW (pWord s0).1 (pWord s0).2 = (a0, s1) := q0
    replace q0 := Lib.hid q0
    have hla := textW_le (pWord s0).1 (pWord s0).2
    obtain ⟨tt, sa, qa⟩ : ∃ a z, pWord s0 = (a, z) := ⟨_, _, rfl⟩
    rw [qa] at CW G3 hsh hla
    dsimp only at CW G3 hsh hla
    have CX := fun W (h : DdOK L w0 W g (fun k => (fun k => F k ∨ w.heap.size ≤ k) k ∨ w.heap.size ≤ k) sa) => dtextr_calls L w0 W g (fun k => (fun k => F k ∨ w.heap.size ≤ k) k ∨ w.heap.size ≤ k) sa h tt hsh
    rw [G3] at CX hla
    dsimp only at CX hla
    clear G3 qa
    go_upto_region 4 with (first | (go_at_call 46; refine CW.mono ?_; rintro _ wA ⟨rfl, RA⟩; have hA := h0.call RA; clear h0 RA CW) | (go_at_call 91; have _q := hA; refine (CX _ hA.ok).mono ?_; rintro _ w2 ⟨rfl, RB⟩; have h1 := hA.call RB; have k0 := h1.at_ (i := 4) (v := .string ⟨#[]⟩) rfl; have f0 := h1.blk.frozen 4; have y0 := h1.at_ (i := 0) (v := .int .i64 1) rfl; clear hA _q RB CX))
    with_reducible refine code_abs (fun w' => DHolds L w0 w1 g w.heap.size (fun k => F k ∨ w.heap.size ≤ k) 45 s1 ({ ev 1 tick node who with object := a0 } : EvtR).cells.toArray w') ?_ ?_
    · exact (h1.set 4 (.string (bstr a0))).to (by kernel_rfl)
    clear h1 y0 k0 f0
    rintro v1 h0
    have x0 := h0.at_ (i := 0) (v := .int .i64 1) rfl
    go_upto_region 4 with (fail)
    clear x0
    obtain ⟨a1, s2, q1⟩ : ∃ a s', rMet L s1 = (a, s') := ⟨_, _, rfl⟩
    have C := dmetr_calls L w0 v1 g _ s1 h0.ok
    rw [q1] at C
    replace q1 := Lib.hid q1
    with_reducible refine wp_region_lit ?_
    with_reducible refine wpList_cutAt 3 ?_
    simp only [List.take_succ_cons, List.take_zero, List.drop_succ_cons, List.drop_zero]
    go_wp2_with (go_at_call 92; refine C.mono ?_; rintro _ w2 ⟨r1, rfl, l1, m1, RB⟩; have h1 := h0.call RB; replace l1 := Lib.hid l1; have n1 := m1.older (B' := (w.heap.size + 2)) (by have := h0.kept.size; omega); clear h0 RB C m1)
    with_reducible refine CutQ.go_ ?_
    with_reducible refine wpList_store_mid rfl 32 (.tmp 16) (.tmp 15) rfl w.heap.size 16 r1.cells.toArray (by kernel_rfl) (by kernel_rfl) (h1.blk.there 16 r1.cells.toArray.size (of_decide_eq_true (by kernel_rfl))) (by kernel_rfl) (by kernel_rfl) (wpList_nil ?_)
    have h2 := (h1.mid r1.cells 16).to (cs' := ({ ev 1 tick node who with object := a0, met := r1 } : EvtR).cells.toArray) (by kernel_rfl)
    have n1 := RowN.cells (g := w.heap.size) (o := 16) (vs := r1.cells) n1 (Nat.lt_add_of_pos_right (by decide))
    revert h2 n1
    generalize w2.setCells w.heap.size 16 r1.cells = v2
    clear h1
    intro h0 n1
    have x0 := h0.at_ (i := 0) (v := .int .i64 1) rfl
    go_upto_region 5 with (fail)
    go_upto_region 5 with (fail)
    clear x0
    obtain ⟨a2, s3, q2⟩ : ∃ a s', rText s2 = (a, s') := ⟨_, _, rfl⟩
    have CW := dw_calls L w0 v2 g _ s2 h0.ok
    have hsh := h0.ok.head
    have G3 : rTextW (pWord s2).1 (pWord s2).2 = (a2, s3) := q2
    replace q2 := Lib.hid q2
    have hla := textW_le (pWord s2).1 (pWord s2).2
    obtain ⟨tt, sa, qa⟩ : ∃ a z, pWord s2 = (a, z) := ⟨_, _, rfl⟩
    rw [qa] at CW G3 hsh hla
    dsimp only at CW G3 hsh hla
    have CX := fun W (h : DdOK L w0 W g (fun k => (fun k => F k ∨ w.heap.size ≤ k) k ∨ w.heap.size ≤ k) sa) => dtextr_calls L w0 W g (fun k => (fun k => F k ∨ w.heap.size ≤ k) k ∨ w.heap.size ≤ k) sa h tt hsh
    rw [G3] at CX hla
    dsimp only at CX hla
    clear G3 qa
    have kc := fun (w : World) => Lib.run_convert_string_bytes (P := Tryz.prog) w 9 43 5 (bstr a2) Tryz.underlying9 Tryz.underlying43 Tryz.underlying5
    go_upto_region 35 with (first | (go_at_call 46; refine CW.mono ?_; rintro _ wA ⟨rfl, RA⟩; have hA := h0.call RA; have n1 := n1.kept RA.kept (fun k hk => by omega); clear h0 RA CW) | (go_at_call 91; have _q := hA; refine (CX _ hA.ok).mono ?_; rintro _ w2 ⟨rfl, RB⟩; have h2 := hA.call RB; have n1 := n1.kept RB.kept (fun k hk => by omega); obtain ⟨r2, hrv, hrl, n2⟩ := bytes_row w2 a2 (by omega); have h1 := h2.below (Lib.bytesWorld_below w2 5 (bstr a2)); have n1 := n1.below (Lib.bytesWorld_below w2 5 (bstr a2)); have n2 := n2.older (B' := (w.heap.size + 2)) (by have := h2.kept.size; omega); have k0 := h1.at_ (i := 53) (v := .slice none 0 0) rfl; have f0 := h1.blk.frozen 53; have y0 := h1.at_ (i := 0) (v := .int .i64 1) rfl; clear hA _q RB CX h2))
    with_reducible refine code_abs (fun w' => DHolds L w0 w1 g w.heap.size (fun k => F k ∨ w.heap.size ≤ k) 45 s3 ({ ev 1 tick node who with object := a0, met := r1, bytes := r2 } : EvtR).cells.toArray w' ∧ RowN txC (w.heap.size + 2) w' r1.keys ∧ RowN byC (w.heap.size + 2) w' r2) ?_ ?_
    · exact ⟨(h1.set 53 (.slice (some ⟨w2.heap.size, 0, none⟩) (bstr a2).size (grownCap w2 (bstr a2).size 0 5))).to (by simp only [EvtR.cells, hrv]; rfl), (n1.cell (p := ⟨w.heap.size, 53, none⟩) (Nat.lt_add_of_pos_right (by decide)) (.slice (some ⟨w2.heap.size, 0, none⟩) (bstr a2).size (grownCap w2 (bstr a2).size 0 5))), (n2.cell (p := ⟨w.heap.size, 53, none⟩) (Nat.lt_add_of_pos_right (by decide)) (.slice (some ⟨w2.heap.size, 0, none⟩) (bstr a2).size (grownCap w2 (bstr a2).size 0 5)))⟩
    clear h1 y0 k0 f0 n1 n2 kc hrv
    replace hrl := Lib.hid hrl
    have lb2 := hrl
    clear hrl
    rintro v3 ⟨h0, n1, n2⟩
    have x0 := h0.at_ (i := 0) (v := .int .i64 1) rfl
    clear x0
    have hN : EvtN (w.heap.size + 2) v3 ({ ev 1 tick node who with object := a0, met := r1, bytes := r2 } : EvtR) := ⟨RowN.none_ _ _ _, RowN.none_ _ _ _, RowN.none_ _ _ _, n1, RowN.none_ _ _ _, RowN.none_ _ _ _, RowN.none_ _ _ _, n2, RowN.none_ _ _ _⟩
    have e : rBody L 1 tick node who s0 = (({ ev 1 tick node who with object := a0, met := r1, bytes := r2 } : EvtR).abs, s3) := by simp only [rBody, q0.out, q1.out, q2.out]; simp only [ev, EvtR.abs, ← l1.out, ← lb2.out]; rfl
    have hR : Blk v3 (w.heap.size + 1) 45 zEvtR.cells.toArray := (h0.kept.block (w.heap.size + 1) (by omega) (by omega)).trans bR
    have hX := h0.blk
    have hR' : v3.heap[(w.heap.size + 1)]? = some (Obj.cells zEvtR.cells.toArray 45) := hR
    have hX' : v3.heap[w.heap.size]? = some (Obj.cells ({ ev 1 tick node who with object := a0, met := r1, bytes := r2 } : EvtR).cells.toArray 45) := hX
    with_reducible refine wp_region_lit ?_
    with_reducible refine wpList_load_row rfl 45 (.tmp 3) rfl w.heap.size (by kernel_rfl) 45 ({ ev 1 tick node who with object := a0, met := r1, bytes := r2 } : EvtR).cells.toArray (0, 0) _ hX' Tryz.underlying45 (by kernel_rfl) (by kernel_rfl) ?_
    go_frame
    with_reducible refine wpList_store_row rfl 45 (.tmp 4) (.tmp 115) rfl (w.heap.size + 1) ({ ev 1 tick node who with object := a0, met := r1, bytes := r2 } : EvtR).cells.toArray (by kernel_rfl) (by kernel_rfl) 45 zEvtR.cells.toArray hR' (by kernel_rfl) (by kernel_rfl) (by kernel_rfl) (wpList_nil ?_)
    have bT : (v3.setRow (w.heap.size + 1) ({ ev 1 tick node who with object := a0, met := r1, bytes := r2 } : EvtR).cells.toArray).heap[(w.heap.size + 1)]? = some (Obj.cells ({ ev 1 tick node who with object := a0, met := r1, bytes := r2 } : EvtR).cells.toArray 45) := hR.setRow_ _
    simp only [Act.put]
    repeat go_step
    (try simp only [Exit.inBlock, Exit.then])
    refine bodyPost_ret (results_cell_row rfl _ _ (w.heap.size + 1) 45 ({ ev 1 tick node who with object := a0, met := r1, bytes := r2 } : EvtR).cells.toArray (0, 0) _ (by kernel_rfl) bT Tryz.underlying45 (by kernel_rfl) (by kernel_rfl)) rfl ?_
    have hH := (DHolds.hold H1 h0 (Nat.le_refl _)).setRow (Nat.le_succ w.heap.size) ({ ev 1 tick node who with object := a0, met := r1, bytes := r2 } : EvtR).cells.toArray
    rw [e]
    exact ⟨({ ev 1 tick node who with object := a0, met := r1, bytes := r2 } : EvtR), rfl, rfl, (hN.setRow (by omega) _).older (by omega), hH.done⟩
  · -- kind 2
    subst hk
    have h0 : DHolds L w0 w1 g w.heap.size (fun k => F k ∨ w.heap.size ≤ k) 45 s0 (ev 2 tick node who).cells.toArray v0 := h0
    have x0 := h0.at_ (i := 0) (v := .int .i64 2) rfl
    go_upto_region 7 with (fail)
    clear x0
    obtain ⟨a0, s1, q0⟩ : ∃ a s', rText s0 = (a, s') := ⟨_, _, rfl⟩
    have CW := dw_calls L w0 v0 g _ s0 h0.ok
    have hsh := h0.ok.head
    have G3 : rTextW (pWord s0).1 (pWord s0).2 = (a0, s1) := q0
    replace q0 := Lib.hid q0
    have hla := textW_le (pWord s0).1 (pWord s0).2
    obtain ⟨tt, sa, qa⟩ : ∃ a z, pWord s0 = (a, z) := ⟨_, _, rfl⟩
    rw [qa] at CW G3 hsh hla
    dsimp only at CW G3 hsh hla
    have CX := fun W (h : DdOK L w0 W g (fun k => (fun k => F k ∨ w.heap.size ≤ k) k ∨ w.heap.size ≤ k) sa) => dtextr_calls L w0 W g (fun k => (fun k => F k ∨ w.heap.size ≤ k) k ∨ w.heap.size ≤ k) sa h tt hsh
    rw [G3] at CX hla
    dsimp only at CX hla
    clear G3 qa
    go_upto_region 8 with (first | (go_at_call 46; refine CW.mono ?_; rintro _ wA ⟨rfl, RA⟩; have hA := h0.call RA; clear h0 RA CW) | (go_at_call 91; have _q := hA; refine (CX _ hA.ok).mono ?_; rintro _ w2 ⟨rfl, RB⟩; have h1 := hA.call RB; have k0 := h1.at_ (i := 4) (v := .string ⟨#[]⟩) rfl; have f0 := h1.blk.frozen 4; have y0 := h1.at_ (i := 0) (v := .int .i64 2) rfl; clear hA _q RB CX))
    with_reducible refine code_abs (fun w' => DHolds L w0 w1 g w.heap.size (fun k => F k ∨ w.heap.size ≤ k) 45 s1 ({ ev 2 tick node who with object := a0 } : EvtR).cells.toArray w') ?_ ?_
    · exact (h1.set 4 (.string (bstr a0))).to (by kernel_rfl)
    clear h1 y0 k0 f0
    rintro v1 h0
    have x0 := h0.at_ (i := 0) (v := .int .i64 2) rfl
    go_upto_region 8 with (fail)
    clear x0
    obtain ⟨a1, s2, q1⟩ : ∃ a s', rText s1 = (a, s') := ⟨_, _, rfl⟩
    have CW := dw_calls L w0 v1 g _ s1 h0.ok
    have hsh := h0.ok.head
    have G3 : rTextW (pWord s1).1 (pWord s1).2 = (a1, s2) := q1
    replace q1 := Lib.hid q1
    have hla := textW_le (pWord s1).1 (pWord s1).2
    obtain ⟨tt, sa, qa⟩ : ∃ a z, pWord s1 = (a, z) := ⟨_, _, rfl⟩
    rw [qa] at CW G3 hsh hla
    dsimp only at CW G3 hsh hla
    have CX := fun W (h : DdOK L w0 W g (fun k => (fun k => F k ∨ w.heap.size ≤ k) k ∨ w.heap.size ≤ k) sa) => dtextr_calls L w0 W g (fun k => (fun k => F k ∨ w.heap.size ≤ k) k ∨ w.heap.size ≤ k) sa h tt hsh
    rw [G3] at CX hla
    dsimp only at CX hla
    clear G3 qa
    have kc := fun (w : World) => Lib.run_convert_string_bytes (P := Tryz.prog) w 9 43 5 (bstr a1) Tryz.underlying9 Tryz.underlying43 Tryz.underlying5
    go_upto_region 35 with (first | (go_at_call 46; refine CW.mono ?_; rintro _ wA ⟨rfl, RA⟩; have hA := h0.call RA; clear h0 RA CW) | (go_at_call 91; have _q := hA; refine (CX _ hA.ok).mono ?_; rintro _ w2 ⟨rfl, RB⟩; have h2 := hA.call RB; obtain ⟨r1, hrv, hrl, n1⟩ := bytes_row w2 a1 (by omega); have h1 := h2.below (Lib.bytesWorld_below w2 5 (bstr a1)); have n1 := n1.older (B' := (w.heap.size + 2)) (by have := h2.kept.size; omega); have k0 := h1.at_ (i := 53) (v := .slice none 0 0) rfl; have f0 := h1.blk.frozen 53; have y0 := h1.at_ (i := 0) (v := .int .i64 2) rfl; clear hA _q RB CX h2))
    with_reducible refine code_abs (fun w' => DHolds L w0 w1 g w.heap.size (fun k => F k ∨ w.heap.size ≤ k) 45 s2 ({ ev 2 tick node who with object := a0, bytes := r1 } : EvtR).cells.toArray w' ∧ RowN byC (w.heap.size + 2) w' r1) ?_ ?_
    · exact ⟨(h1.set 53 (.slice (some ⟨w2.heap.size, 0, none⟩) (bstr a1).size (grownCap w2 (bstr a1).size 0 5))).to (by simp only [EvtR.cells, hrv]; rfl), (n1.cell (p := ⟨w.heap.size, 53, none⟩) (Nat.lt_add_of_pos_right (by decide)) (.slice (some ⟨w2.heap.size, 0, none⟩) (bstr a1).size (grownCap w2 (bstr a1).size 0 5)))⟩
    clear h1 y0 k0 f0 n1 kc hrv
    replace hrl := Lib.hid hrl
    have lb1 := hrl
    clear hrl
    rintro v2 ⟨h0, n1⟩
    have x0 := h0.at_ (i := 0) (v := .int .i64 2) rfl
    clear x0
    have hN : EvtN (w.heap.size + 2) v2 ({ ev 2 tick node who with object := a0, bytes := r1 } : EvtR) := ⟨RowN.none_ _ _ _, RowN.none_ _ _ _, RowN.none_ _ _ _, RowN.none_ _ _ _, RowN.none_ _ _ _, RowN.none_ _ _ _, RowN.none_ _ _ _, n1, RowN.none_ _ _ _⟩
    have e : rBody L 2 tick node who s0 = (({ ev 2 tick node who with object := a0, bytes := r1 } : EvtR).abs, s2) := by simp only [rBody, q0.out, q1.out]; simp only [ev, EvtR.abs, ← lb1.out]; rfl
    have hR : Blk v2 (w.heap.size + 1) 45 zEvtR.cells.toArray := (h0.kept.block (w.heap.size + 1) (by omega) (by omega)).trans bR
    have hX := h0.blk
    have hR' : v2.heap[(w.heap.size + 1)]? = some (Obj.cells zEvtR.cells.toArray 45) := hR
    have hX' : v2.heap[w.heap.size]? = some (Obj.cells ({ ev 2 tick node who with object := a0, bytes := r1 } : EvtR).cells.toArray 45) := hX
    with_reducible refine wp_region_lit ?_
    with_reducible refine wpList_load_row rfl 45 (.tmp 3) rfl w.heap.size (by kernel_rfl) 45 ({ ev 2 tick node who with object := a0, bytes := r1 } : EvtR).cells.toArray (0, 0) _ hX' Tryz.underlying45 (by kernel_rfl) (by kernel_rfl) ?_
    go_frame
    with_reducible refine wpList_store_row rfl 45 (.tmp 4) (.tmp 115) rfl (w.heap.size + 1) ({ ev 2 tick node who with object := a0, bytes := r1 } : EvtR).cells.toArray (by kernel_rfl) (by kernel_rfl) 45 zEvtR.cells.toArray hR' (by kernel_rfl) (by kernel_rfl) (by kernel_rfl) (wpList_nil ?_)
    have bT : (v2.setRow (w.heap.size + 1) ({ ev 2 tick node who with object := a0, bytes := r1 } : EvtR).cells.toArray).heap[(w.heap.size + 1)]? = some (Obj.cells ({ ev 2 tick node who with object := a0, bytes := r1 } : EvtR).cells.toArray 45) := hR.setRow_ _
    simp only [Act.put]
    repeat go_step
    (try simp only [Exit.inBlock, Exit.then])
    refine bodyPost_ret (results_cell_row rfl _ _ (w.heap.size + 1) 45 ({ ev 2 tick node who with object := a0, bytes := r1 } : EvtR).cells.toArray (0, 0) _ (by kernel_rfl) bT Tryz.underlying45 (by kernel_rfl) (by kernel_rfl)) rfl ?_
    have hH := (DHolds.hold H1 h0 (Nat.le_refl _)).setRow (Nat.le_succ w.heap.size) ({ ev 2 tick node who with object := a0, bytes := r1 } : EvtR).cells.toArray
    rw [e]
    exact ⟨({ ev 2 tick node who with object := a0, bytes := r1 } : EvtR), rfl, rfl, (hN.setRow (by omega) _).older (by omega), hH.done⟩
  · -- kind 3
    subst hk
    have h0 : DHolds L w0 w1 g w.heap.size (fun k => F k ∨ w.heap.size ≤ k) 45 s0 (ev 3 tick node who).cells.toArray v0 := h0
    have x0 := h0.at_ (i := 0) (v := .int .i64 3) rfl
    go_upto_region 11 with (fail)
    clear x0
    obtain ⟨a0, s1, q0⟩ : ∃ a s', rText s0 = (a, s') := ⟨_, _, rfl⟩
    have CW := dw_calls L w0 v0 g _ s0 h0.ok
    have hsh := h0.ok.head
    have G3 : rTextW (pWord s0).1 (pWord s0).2 = (a0, s1) := q0
    replace q0 := Lib.hid q0
    have hla := textW_le (pWord s0).1 (pWord s0).2
    obtain ⟨tt, sa, qa⟩ : ∃ a z, pWord s0 = (a, z) := ⟨_, _, rfl⟩
    rw [qa] at CW G3 hsh hla
    dsimp only at CW G3 hsh hla
    have CX := fun W (h : DdOK L w0 W g (fun k => (fun k => F k ∨ w.heap.size ≤ k) k ∨ w.heap.size ≤ k) sa) => dtextr_calls L w0 W g (fun k => (fun k => F k ∨ w.heap.size ≤ k) k ∨ w.heap.size ≤ k) sa h tt hsh
    rw [G3] at CX hla
    dsimp only at CX hla
    clear G3 qa
    go_upto_region 35 with (first | (go_at_call 46; refine CW.mono ?_; rintro _ wA ⟨rfl, RA⟩; have hA := h0.call RA; clear h0 RA CW) | (go_at_call 91; have _q := hA; refine (CX _ hA.ok).mono ?_; rintro _ w2 ⟨rfl, RB⟩; have h1 := hA.call RB; have k0 := h1.at_ (i := 4) (v := .string ⟨#[]⟩) rfl; have f0 := h1.blk.frozen 4; have y0 := h1.at_ (i := 0) (v := .int .i64 3) rfl; clear hA _q RB CX))
    with_reducible refine code_abs (fun w' => DHolds L w0 w1 g w.heap.size (fun k => F k ∨ w.heap.size ≤ k) 45 s1 ({ ev 3 tick node who with object := a0 } : EvtR).cells.toArray w') ?_ ?_
    · exact (h1.set 4 (.string (bstr a0))).to (by kernel_rfl)
    clear h1 y0 k0 f0
    rintro v1 h0
    have x0 := h0.at_ (i := 0) (v := .int .i64 3) rfl
    clear x0
    have hN : EvtN (w.heap.size + 2) v1 ({ ev 3 tick node who with object := a0 } : EvtR) := ⟨RowN.none_ _ _ _, RowN.none_ _ _ _, RowN.none_ _ _ _, RowN.none_ _ _ _, RowN.none_ _ _ _, RowN.none_ _ _ _, RowN.none_ _ _ _, RowN.none_ _ _ _, RowN.none_ _ _ _⟩
    have e : rBody L 3 tick node who s0 = (({ ev 3 tick node who with object := a0 } : EvtR).abs, s1) := by simp only [rBody, q0.out]; rfl
    have hR : Blk v1 (w.heap.size + 1) 45 zEvtR.cells.toArray := (h0.kept.block (w.heap.size + 1) (by omega) (by omega)).trans bR
    have hX := h0.blk
    have hR' : v1.heap[(w.heap.size + 1)]? = some (Obj.cells zEvtR.cells.toArray 45) := hR
    have hX' : v1.heap[w.heap.size]? = some (Obj.cells ({ ev 3 tick node who with object := a0 } : EvtR).cells.toArray 45) := hX
    with_reducible refine wp_region_lit ?_
    with_reducible refine wpList_load_row rfl 45 (.tmp 3) rfl w.heap.size (by kernel_rfl) 45 ({ ev 3 tick node who with object := a0 } : EvtR).cells.toArray (0, 0) _ hX' Tryz.underlying45 (by kernel_rfl) (by kernel_rfl) ?_
    go_frame
    with_reducible refine wpList_store_row rfl 45 (.tmp 4) (.tmp 115) rfl (w.heap.size + 1) ({ ev 3 tick node who with object := a0 } : EvtR).cells.toArray (by kernel_rfl) (by kernel_rfl) 45 zEvtR.cells.toArray hR' (by kernel_rfl) (by kernel_rfl) (by kernel_rfl) (wpList_nil ?_)
    have bT : (v1.setRow (w.heap.size + 1) ({ ev 3 tick node who with object := a0 } : EvtR).cells.toArray).heap[(w.heap.size + 1)]? = some (Obj.cells ({ ev 3 tick node who with object := a0 } : EvtR).cells.toArray 45) := hR.setRow_ _
    simp only [Act.put]
    repeat go_step
    (try simp only [Exit.inBlock, Exit.then])
    refine bodyPost_ret (results_cell_row rfl _ _ (w.heap.size + 1) 45 ({ ev 3 tick node who with object := a0 } : EvtR).cells.toArray (0, 0) _ (by kernel_rfl) bT Tryz.underlying45 (by kernel_rfl) (by kernel_rfl)) rfl ?_
    have hH := (DHolds.hold H1 h0 (Nat.le_refl _)).setRow (Nat.le_succ w.heap.size) ({ ev 3 tick node who with object := a0 } : EvtR).cells.toArray
    rw [e]
    exact ⟨({ ev 3 tick node who with object := a0 } : EvtR), rfl, rfl, (hN.setRow (by omega) _).older (by omega), hH.done⟩
  · -- kind 4
    subst hk
    have h0 : DHolds L w0 w1 g w.heap.size (fun k => F k ∨ w.heap.size ≤ k) 45 s0 (ev 4 tick node who).cells.toArray v0 := h0
    have x0 := h0.at_ (i := 0) (v := .int .i64 4) rfl
    go_upto_region 11 with (fail)
    clear x0
    obtain ⟨a0, s1, q0⟩ : ∃ a s', rText s0 = (a, s') := ⟨_, _, rfl⟩
    have CW := dw_calls L w0 v0 g _ s0 h0.ok
    have hsh := h0.ok.head
    have G3 : rTextW (pWord s0).1 (pWord s0).2 = (a0, s1) := q0
    replace q0 := Lib.hid q0
    have hla := textW_le (pWord s0).1 (pWord s0).2
    obtain ⟨tt, sa, qa⟩ : ∃ a z, pWord s0 = (a, z) := ⟨_, _, rfl⟩
    rw [qa] at CW G3 hsh hla
    dsimp only at CW G3 hsh hla
    have CX := fun W (h : DdOK L w0 W g (fun k => (fun k => F k ∨ w.heap.size ≤ k) k ∨ w.heap.size ≤ k) sa) => dtextr_calls L w0 W g (fun k => (fun k => F k ∨ w.heap.size ≤ k) k ∨ w.heap.size ≤ k) sa h tt hsh
    rw [G3] at CX hla
    dsimp only at CX hla
    clear G3 qa
    go_upto_region 35 with (first | (go_at_call 46; refine CW.mono ?_; rintro _ wA ⟨rfl, RA⟩; have hA := h0.call RA; clear h0 RA CW) | (go_at_call 91; have _q := hA; refine (CX _ hA.ok).mono ?_; rintro _ w2 ⟨rfl, RB⟩; have h1 := hA.call RB; have k0 := h1.at_ (i := 4) (v := .string ⟨#[]⟩) rfl; have f0 := h1.blk.frozen 4; have y0 := h1.at_ (i := 0) (v := .int .i64 4) rfl; clear hA _q RB CX))
    with_reducible refine code_abs (fun w' => DHolds L w0 w1 g w.heap.size (fun k => F k ∨ w.heap.size ≤ k) 45 s1 ({ ev 4 tick node who with object := a0 } : EvtR).cells.toArray w') ?_ ?_
    · exact (h1.set 4 (.string (bstr a0))).to (by kernel_rfl)
    clear h1 y0 k0 f0
    rintro v1 h0
    have x0 := h0.at_ (i := 0) (v := .int .i64 4) rfl
    clear x0
    have hN : EvtN (w.heap.size + 2) v1 ({ ev 4 tick node who with object := a0 } : EvtR) := ⟨RowN.none_ _ _ _, RowN.none_ _ _ _, RowN.none_ _ _ _, RowN.none_ _ _ _, RowN.none_ _ _ _, RowN.none_ _ _ _, RowN.none_ _ _ _, RowN.none_ _ _ _, RowN.none_ _ _ _⟩
    have e : rBody L 4 tick node who s0 = (({ ev 4 tick node who with object := a0 } : EvtR).abs, s1) := by simp only [rBody, q0.out]; rfl
    have hR : Blk v1 (w.heap.size + 1) 45 zEvtR.cells.toArray := (h0.kept.block (w.heap.size + 1) (by omega) (by omega)).trans bR
    have hX := h0.blk
    have hR' : v1.heap[(w.heap.size + 1)]? = some (Obj.cells zEvtR.cells.toArray 45) := hR
    have hX' : v1.heap[w.heap.size]? = some (Obj.cells ({ ev 4 tick node who with object := a0 } : EvtR).cells.toArray 45) := hX
    with_reducible refine wp_region_lit ?_
    with_reducible refine wpList_load_row rfl 45 (.tmp 3) rfl w.heap.size (by kernel_rfl) 45 ({ ev 4 tick node who with object := a0 } : EvtR).cells.toArray (0, 0) _ hX' Tryz.underlying45 (by kernel_rfl) (by kernel_rfl) ?_
    go_frame
    with_reducible refine wpList_store_row rfl 45 (.tmp 4) (.tmp 115) rfl (w.heap.size + 1) ({ ev 4 tick node who with object := a0 } : EvtR).cells.toArray (by kernel_rfl) (by kernel_rfl) 45 zEvtR.cells.toArray hR' (by kernel_rfl) (by kernel_rfl) (by kernel_rfl) (wpList_nil ?_)
    have bT : (v1.setRow (w.heap.size + 1) ({ ev 4 tick node who with object := a0 } : EvtR).cells.toArray).heap[(w.heap.size + 1)]? = some (Obj.cells ({ ev 4 tick node who with object := a0 } : EvtR).cells.toArray 45) := hR.setRow_ _
    simp only [Act.put]
    repeat go_step
    (try simp only [Exit.inBlock, Exit.then])
    refine bodyPost_ret (results_cell_row rfl _ _ (w.heap.size + 1) 45 ({ ev 4 tick node who with object := a0 } : EvtR).cells.toArray (0, 0) _ (by kernel_rfl) bT Tryz.underlying45 (by kernel_rfl) (by kernel_rfl)) rfl ?_
    have hH := (DHolds.hold H1 h0 (Nat.le_refl _)).setRow (Nat.le_succ w.heap.size) ({ ev 4 tick node who with object := a0 } : EvtR).cells.toArray
    rw [e]
    exact ⟨({ ev 4 tick node who with object := a0 } : EvtR), rfl, rfl, (hN.setRow (by omega) _).older (by omega), hH.done⟩
  · -- kind 5
    subst hk
    have h0 : DHolds L w0 w1 g w.heap.size (fun k => F k ∨ w.heap.size ≤ k) 45 s0 (ev 5 tick node who).cells.toArray v0 := h0
    have x0 := h0.at_ (i := 0) (v := .int .i64 5) rfl
    go_upto_region 13 with (fail)
    clear x0
    obtain ⟨a0, s1, q0⟩ : ∃ a s', rTruth s0 = (a, s') := ⟨_, _, rfl⟩
    have C := dtruth_calls L w0 v0 g _ s0 h0.ok
    rw [q0] at C
    replace q0 := Lib.hid q0
    go_upto_region 14 with (go_at_call 93; refine C.mono ?_; rintro _ w2 ⟨rfl, RB⟩; have h1 := h0.call RB; have k0 := h1.at_ (i := 55) (v := .bool false) rfl; have f0 := h1.blk.frozen 55; have y0 := h1.at_ (i := 0) (v := .int .i64 5) rfl; clear h0 RB C)
    with_reducible refine code_abs (fun w' => DHolds L w0 w1 g w.heap.size (fun k => F k ∨ w.heap.size ≤ k) 45 s1 ({ ev 5 tick node who with hard := a0 } : EvtR).cells.toArray w') ?_ ?_
    · exact (h1.set 55 (.bool a0)).to (by kernel_rfl)
    clear h1 y0 k0 f0
    rintro v1 h0
    have x0 := h0.at_ (i := 0) (v := .int .i64 5) rfl
    go_upto_region 14 with (fail)
    clear x0
    obtain ⟨a1, s2, q1⟩ : ∃ a s', rList L rText s1 = (a, s') := ⟨_, _, rfl⟩
    have C := dwords_read L w0 v1 g _ s1 h0.ok
    rw [q1] at C
    replace q1 := Lib.hid q1
    go_upto_region 35 with (go_at_call 94; refine C.mono ?_; rintro _ w2 ⟨r1, rfl, l1, m1, RB⟩; have h1 := h0.call RB; replace l1 := Lib.hid l1; have n1 := m1.older (B' := (w.heap.size + 2)) (by have := h0.kept.size; omega); have k0 := h1.at_ (i := 54) (v := .slice none 0 0) rfl; have f0 := h1.blk.frozen 54; have y0 := h1.at_ (i := 0) (v := .int .i64 5) rfl; clear h0 RB C m1)
    with_reducible refine code_abs (fun w' => DHolds L w0 w1 g w.heap.size (fun k => F k ∨ w.heap.size ≤ k) 45 s2 ({ ev 5 tick node who with hard := a0, keys := r1 } : EvtR).cells.toArray w' ∧ RowN txC (w.heap.size + 2) w' r1) ?_ ?_
    · exact ⟨(h1.set 54 (.slice r1.A r1.l.length r1.cap)).to (by kernel_rfl), (n1.cell (p := ⟨w.heap.size, 54, none⟩) (Nat.lt_add_of_pos_right (by decide)) (.slice r1.A r1.l.length r1.cap))⟩
    clear h1 y0 k0 f0 n1
    rintro v2 ⟨h0, n1⟩
    have x0 := h0.at_ (i := 0) (v := .int .i64 5) rfl
    clear x0
    have hN : EvtN (w.heap.size + 2) v2 ({ ev 5 tick node who with hard := a0, keys := r1 } : EvtR) := ⟨RowN.none_ _ _ _, RowN.none_ _ _ _, RowN.none_ _ _ _, RowN.none_ _ _ _, RowN.none_ _ _ _, RowN.none_ _ _ _, RowN.none_ _ _ _, RowN.none_ _ _ _, n1⟩
    have e : rBody L 5 tick node who s0 = (({ ev 5 tick node who with hard := a0, keys := r1 } : EvtR).abs, s2) := by simp only [rBody, q0.out, q1.out]; simp only [ev, EvtR.abs, ← l1.out]; rfl
    have hR : Blk v2 (w.heap.size + 1) 45 zEvtR.cells.toArray := (h0.kept.block (w.heap.size + 1) (by omega) (by omega)).trans bR
    have hX := h0.blk
    have hR' : v2.heap[(w.heap.size + 1)]? = some (Obj.cells zEvtR.cells.toArray 45) := hR
    have hX' : v2.heap[w.heap.size]? = some (Obj.cells ({ ev 5 tick node who with hard := a0, keys := r1 } : EvtR).cells.toArray 45) := hX
    with_reducible refine wp_region_lit ?_
    with_reducible refine wpList_load_row rfl 45 (.tmp 3) rfl w.heap.size (by kernel_rfl) 45 ({ ev 5 tick node who with hard := a0, keys := r1 } : EvtR).cells.toArray (0, 0) _ hX' Tryz.underlying45 (by kernel_rfl) (by kernel_rfl) ?_
    go_frame
    with_reducible refine wpList_store_row rfl 45 (.tmp 4) (.tmp 115) rfl (w.heap.size + 1) ({ ev 5 tick node who with hard := a0, keys := r1 } : EvtR).cells.toArray (by kernel_rfl) (by kernel_rfl) 45 zEvtR.cells.toArray hR' (by kernel_rfl) (by kernel_rfl) (by kernel_rfl) (wpList_nil ?_)
    have bT : (v2.setRow (w.heap.size + 1) ({ ev 5 tick node who with hard := a0, keys := r1 } : EvtR).cells.toArray).heap[(w.heap.size + 1)]? = some (Obj.cells ({ ev 5 tick node who with hard := a0, keys := r1 } : EvtR).cells.toArray 45) := hR.setRow_ _
    simp only [Act.put]
    repeat go_step
    (try simp only [Exit.inBlock, Exit.then])
    refine bodyPost_ret (results_cell_row rfl _ _ (w.heap.size + 1) 45 ({ ev 5 tick node who with hard := a0, keys := r1 } : EvtR).cells.toArray (0, 0) _ (by kernel_rfl) bT Tryz.underlying45 (by kernel_rfl) (by kernel_rfl)) rfl ?_
    have hH := (DHolds.hold H1 h0 (Nat.le_refl _)).setRow (Nat.le_succ w.heap.size) ({ ev 5 tick node who with hard := a0, keys := r1 } : EvtR).cells.toArray
    rw [e]
    exact ⟨({ ev 5 tick node who with hard := a0, keys := r1 } : EvtR), rfl, rfl, (hN.setRow (by omega) _).older (by omega), hH.done⟩
  · -- kind 6
    subst hk
    have h0 : DHolds L w0 w1 g w.heap.size (fun k => F k ∨ w.heap.size ≤ k) 45 s0 (ev 6 tick node who).cells.toArray v0 := h0
    have x0 := h0.at_ (i := 0) (v := .int .i64 6) rfl
    go_upto_region 16 with (fail)
    clear x0
    obtain ⟨a0, s1, q0⟩ : ∃ a s', rReq L s0 = (a, s') := ⟨_, _, rfl⟩
    have C := dreqr_calls L w0 v0 g _ s0 h0.ok
    rw [q0] at C
    replace q0 := Lib.hid q0
    with_reducible refine wp_region_lit ?_
    with_reducible refine wpList_cutAt 3 ?_
    simp only [List.take_succ_cons, List.take_zero, List.drop_succ_cons, List.drop_zero]
    go_wp2_with (go_at_call 95; refine C.mono ?_; rintro _ w2 ⟨r0, rfl, l0, m0, ma0, mb0, RB⟩; have h1 := h0.call RB; replace l0 := Lib.hid l0; have n0 := m0.older (B' := (w.heap.size + 2)) (by have := h0.kept.size; omega); have na0 := ma0.older (B' := (w.heap.size + 2)) (by have := h0.kept.size; omega); have nb0 := mb0.older (B' := (w.heap.size + 2)) (by have := h0.kept.size; omega); clear h0 RB C m0 ma0 mb0)
    with_reducible refine CutQ.go_ ?_
    with_reducible refine wpList_store_mid rfl 29 (.tmp 56) (.tmp 55) rfl w.heap.size 5 r0.cells.toArray (by kernel_rfl) (by kernel_rfl) (h1.blk.there 5 r0.cells.toArray.size (of_decide_eq_true (by kernel_rfl))) (by kernel_rfl) (by kernel_rfl) (wpList_nil ?_)
    have h2 := (h1.mid r0.cells 5).to (cs' := ({ ev 6 tick node who with req := r0 } : EvtR).cells.toArray) (by kernel_rfl)
    have n0 := RowN.cells (g := w.heap.size) (o := 5) (vs := r0.cells) n0 (Nat.lt_add_of_pos_right (by decide))
    have na0 := RowN.cells (g := w.heap.size) (o := 5) (vs := r0.cells) na0 (Nat.lt_add_of_pos_right (by decide))
    have nb0 := RowN.cells (g := w.heap.size) (o := 5) (vs := r0.cells) nb0 (Nat.lt_add_of_pos_right (by decide))
    revert h2 n0 na0 nb0
    generalize w2.setCells w.heap.size 5 r0.cells = v1
    clear h1
    intro h0 n0 na0 nb0
    have x0 := h0.at_ (i := 0) (v := .int .i64 6) rfl
    go_upto_region 35 with (fail)
    clear x0
    have hN : EvtN (w.heap.size + 2) v1 ({ ev 6 tick node who with req := r0 } : EvtR) := ⟨n0, na0, nb0, RowN.none_ _ _ _, RowN.none_ _ _ _, RowN.none_ _ _ _, RowN.none_ _ _ _, RowN.none_ _ _ _, RowN.none_ _ _ _⟩
    have e : rBody L 6 tick node who s0 = (({ ev 6 tick node who with req := r0 } : EvtR).abs, s1) := by simp only [rBody, q0.out]; simp only [ev, EvtR.abs, ← l0.out]; rfl
    have hR : Blk v1 (w.heap.size + 1) 45 zEvtR.cells.toArray := (h0.kept.block (w.heap.size + 1) (by omega) (by omega)).trans bR
    have hX := h0.blk
    have hR' : v1.heap[(w.heap.size + 1)]? = some (Obj.cells zEvtR.cells.toArray 45) := hR
    have hX' : v1.heap[w.heap.size]? = some (Obj.cells ({ ev 6 tick node who with req := r0 } : EvtR).cells.toArray 45) := hX
    with_reducible refine wp_region_lit ?_
    with_reducible refine wpList_load_row rfl 45 (.tmp 3) rfl w.heap.size (by kernel_rfl) 45 ({ ev 6 tick node who with req := r0 } : EvtR).cells.toArray (0, 0) _ hX' Tryz.underlying45 (by kernel_rfl) (by kernel_rfl) ?_
    go_frame
    with_reducible refine wpList_store_row rfl 45 (.tmp 4) (.tmp 115) rfl (w.heap.size + 1) ({ ev 6 tick node who with req := r0 } : EvtR).cells.toArray (by kernel_rfl) (by kernel_rfl) 45 zEvtR.cells.toArray hR' (by kernel_rfl) (by kernel_rfl) (by kernel_rfl) (wpList_nil ?_)
    have bT : (v1.setRow (w.heap.size + 1) ({ ev 6 tick node who with req := r0 } : EvtR).cells.toArray).heap[(w.heap.size + 1)]? = some (Obj.cells ({ ev 6 tick node who with req := r0 } : EvtR).cells.toArray 45) := hR.setRow_ _
    simp only [Act.put]
    repeat go_step
    (try simp only [Exit.inBlock, Exit.then])
    refine bodyPost_ret (results_cell_row rfl _ _ (w.heap.size + 1) 45 ({ ev 6 tick node who with req := r0 } : EvtR).cells.toArray (0, 0) _ (by kernel_rfl) bT Tryz.underlying45 (by kernel_rfl) (by kernel_rfl)) rfl ?_
    have hH := (DHolds.hold H1 h0 (Nat.le_refl _)).setRow (Nat.le_succ w.heap.size) ({ ev 6 tick node who with req := r0 } : EvtR).cells.toArray
    rw [e]
    exact ⟨({ ev 6 tick node who with req := r0 } : EvtR), rfl, rfl, (hN.setRow (by omega) _).older (by omega), hH.done⟩
  · -- kind 7
    subst hk
    have h0 : DHolds L w0 w1 g w.heap.size (fun k => F k ∨ w.heap.size ≤ k) 45 s0 (ev 7 tick node who).cells.toArray v0 := h0
    have x0 := h0.at_ (i := 0) (v := .int .i64 7) rfl
    go_upto_region 35 with (fail)
    clear x0
    have hN : EvtN (w.heap.size + 2) v0 ((ev 7 tick node who) : EvtR) := ⟨RowN.none_ _ _ _, RowN.none_ _ _ _, RowN.none_ _ _ _, RowN.none_ _ _ _, RowN.none_ _ _ _, RowN.none_ _ _ _, RowN.none_ _ _ _, RowN.none_ _ _ _, RowN.none_ _ _ _⟩
    have e : rBody L 7 tick node who s0 = (((ev 7 tick node who) : EvtR).abs, s0) := by simp only [rBody]; rfl
    have hR : Blk v0 (w.heap.size + 1) 45 zEvtR.cells.toArray := (h0.kept.block (w.heap.size + 1) (by omega) (by omega)).trans bR
    have hX := h0.blk
    have hR' : v0.heap[(w.heap.size + 1)]? = some (Obj.cells zEvtR.cells.toArray 45) := hR
    have hX' : v0.heap[w.heap.size]? = some (Obj.cells ((ev 7 tick node who) : EvtR).cells.toArray 45) := hX
    with_reducible refine wp_region_lit ?_
    with_reducible refine wpList_load_row rfl 45 (.tmp 3) rfl w.heap.size (by kernel_rfl) 45 ((ev 7 tick node who) : EvtR).cells.toArray (0, 0) _ hX' Tryz.underlying45 (by kernel_rfl) (by kernel_rfl) ?_
    go_frame
    with_reducible refine wpList_store_row rfl 45 (.tmp 4) (.tmp 115) rfl (w.heap.size + 1) ((ev 7 tick node who) : EvtR).cells.toArray (by kernel_rfl) (by kernel_rfl) 45 zEvtR.cells.toArray hR' (by kernel_rfl) (by kernel_rfl) (by kernel_rfl) (wpList_nil ?_)
    have bT : (v0.setRow (w.heap.size + 1) ((ev 7 tick node who) : EvtR).cells.toArray).heap[(w.heap.size + 1)]? = some (Obj.cells ((ev 7 tick node who) : EvtR).cells.toArray 45) := hR.setRow_ _
    simp only [Act.put]
    repeat go_step
    (try simp only [Exit.inBlock, Exit.then])
    refine bodyPost_ret (results_cell_row rfl _ _ (w.heap.size + 1) 45 ((ev 7 tick node who) : EvtR).cells.toArray (0, 0) _ (by kernel_rfl) bT Tryz.underlying45 (by kernel_rfl) (by kernel_rfl)) rfl ?_
    have hH := (DHolds.hold H1 h0 (Nat.le_refl _)).setRow (Nat.le_succ w.heap.size) ((ev 7 tick node who) : EvtR).cells.toArray
    rw [e]
    exact ⟨((ev 7 tick node who) : EvtR), rfl, rfl, (hN.setRow (by omega) _).older (by omega), hH.done⟩
  · -- kind 8
    subst hk
    have h0 : DHolds L w0 w1 g w.heap.size (fun k => F k ∨ w.heap.size ≤ k) 45 s0 (ev 8 tick node who).cells.toArray v0 := h0
    have x0 := h0.at_ (i := 0) (v := .int .i64 8) rfl
    go_upto_region 18 with (fail)
    clear x0
    obtain ⟨a0, s1, q0⟩ : ∃ a s', rAns L s0 = (a, s') := ⟨_, _, rfl⟩
    have C := dansr_calls L w0 v0 g _ s0 h0.ok
    rw [q0] at C
    replace q0 := Lib.hid q0
    with_reducible refine wp_region_lit ?_
    with_reducible refine wpList_cutAt 3 ?_
    simp only [List.take_succ_cons, List.take_zero, List.drop_succ_cons, List.drop_zero]
    go_wp2_with (go_at_call 96; refine C.mono ?_; rintro _ w2 ⟨r0, rfl, l0, m0, ma0, RB⟩; have h1 := h0.call RB; replace l0 := Lib.hid l0; have n0 := m0.older (B' := (w.heap.size + 2)) (by have := h0.kept.size; omega); have na0 := ma0.older (B' := (w.heap.size + 2)) (by have := h0.kept.size; omega); clear h0 RB C m0 ma0)
    with_reducible refine CutQ.go_ ?_
    with_reducible refine wpList_store_mid rfl 36 (.tmp 61) (.tmp 60) rfl w.heap.size 27 r0.cells.toArray (by kernel_rfl) (by kernel_rfl) (h1.blk.there 27 r0.cells.toArray.size (of_decide_eq_true (by kernel_rfl))) (by kernel_rfl) (by kernel_rfl) (wpList_nil ?_)
    have h2 := (h1.mid r0.cells 27).to (cs' := ({ ev 8 tick node who with ans := r0 } : EvtR).cells.toArray) (by kernel_rfl)
    have n0 := RowN.cells (g := w.heap.size) (o := 27) (vs := r0.cells) n0 (Nat.lt_add_of_pos_right (by decide))
    have na0 := RowN.cells (g := w.heap.size) (o := 27) (vs := r0.cells) na0 (Nat.lt_add_of_pos_right (by decide))
    revert h2 n0 na0
    generalize w2.setCells w.heap.size 27 r0.cells = v1
    clear h1
    intro h0 n0 na0
    have x0 := h0.at_ (i := 0) (v := .int .i64 8) rfl
    go_upto_region 35 with (fail)
    clear x0
    have hN : EvtN (w.heap.size + 2) v1 ({ ev 8 tick node who with ans := r0 } : EvtR) := ⟨RowN.none_ _ _ _, RowN.none_ _ _ _, RowN.none_ _ _ _, RowN.none_ _ _ _, n0, na0, RowN.none_ _ _ _, RowN.none_ _ _ _, RowN.none_ _ _ _⟩
    have e : rBody L 8 tick node who s0 = (({ ev 8 tick node who with ans := r0 } : EvtR).abs, s1) := by simp only [rBody, q0.out]; simp only [ev, EvtR.abs, ← l0.out]; rfl
    have hR : Blk v1 (w.heap.size + 1) 45 zEvtR.cells.toArray := (h0.kept.block (w.heap.size + 1) (by omega) (by omega)).trans bR
    have hX := h0.blk
    have hR' : v1.heap[(w.heap.size + 1)]? = some (Obj.cells zEvtR.cells.toArray 45) := hR
    have hX' : v1.heap[w.heap.size]? = some (Obj.cells ({ ev 8 tick node who with ans := r0 } : EvtR).cells.toArray 45) := hX
    with_reducible refine wp_region_lit ?_
    with_reducible refine wpList_load_row rfl 45 (.tmp 3) rfl w.heap.size (by kernel_rfl) 45 ({ ev 8 tick node who with ans := r0 } : EvtR).cells.toArray (0, 0) _ hX' Tryz.underlying45 (by kernel_rfl) (by kernel_rfl) ?_
    go_frame
    with_reducible refine wpList_store_row rfl 45 (.tmp 4) (.tmp 115) rfl (w.heap.size + 1) ({ ev 8 tick node who with ans := r0 } : EvtR).cells.toArray (by kernel_rfl) (by kernel_rfl) 45 zEvtR.cells.toArray hR' (by kernel_rfl) (by kernel_rfl) (by kernel_rfl) (wpList_nil ?_)
    have bT : (v1.setRow (w.heap.size + 1) ({ ev 8 tick node who with ans := r0 } : EvtR).cells.toArray).heap[(w.heap.size + 1)]? = some (Obj.cells ({ ev 8 tick node who with ans := r0 } : EvtR).cells.toArray 45) := hR.setRow_ _
    simp only [Act.put]
    repeat go_step
    (try simp only [Exit.inBlock, Exit.then])
    refine bodyPost_ret (results_cell_row rfl _ _ (w.heap.size + 1) 45 ({ ev 8 tick node who with ans := r0 } : EvtR).cells.toArray (0, 0) _ (by kernel_rfl) bT Tryz.underlying45 (by kernel_rfl) (by kernel_rfl)) rfl ?_
    have hH := (DHolds.hold H1 h0 (Nat.le_refl _)).setRow (Nat.le_succ w.heap.size) ({ ev 8 tick node who with ans := r0 } : EvtR).cells.toArray
    rw [e]
    exact ⟨({ ev 8 tick node who with ans := r0 } : EvtR), rfl, rfl, (hN.setRow (by omega) _).older (by omega), hH.done⟩
  · -- kind 9
    subst hk
    have h0 : DHolds L w0 w1 g w.heap.size (fun k => F k ∨ w.heap.size ≤ k) 45 s0 (ev 9 tick node who).cells.toArray v0 := h0
    have x0 := h0.at_ (i := 0) (v := .int .i64 9) rfl
    go_upto_region 21 with (fail)
    clear x0
    obtain ⟨a0, s1, q0⟩ : ∃ a s', rText s0 = (a, s') := ⟨_, _, rfl⟩
    have CW := dw_calls L w0 v0 g _ s0 h0.ok
    have hsh := h0.ok.head
    have G3 : rTextW (pWord s0).1 (pWord s0).2 = (a0, s1) := q0
    replace q0 := Lib.hid q0
    have hla := textW_le (pWord s0).1 (pWord s0).2
    obtain ⟨tt, sa, qa⟩ : ∃ a z, pWord s0 = (a, z) := ⟨_, _, rfl⟩
    rw [qa] at CW G3 hsh hla
    dsimp only at CW G3 hsh hla
    have CX := fun W (h : DdOK L w0 W g (fun k => (fun k => F k ∨ w.heap.size ≤ k) k ∨ w.heap.size ≤ k) sa) => dtextr_calls L w0 W g (fun k => (fun k => F k ∨ w.heap.size ≤ k) k ∨ w.heap.size ≤ k) sa h tt hsh
    rw [G3] at CX hla
    dsimp only at CX hla
    clear G3 qa
    have kc := fun (w : World) => Lib.run_convert_string_bytes (P := Tryz.prog) w 9 43 5 (bstr a0) Tryz.underlying9 Tryz.underlying43 Tryz.underlying5
    go_upto_region 35 with (first | (go_at_call 46; refine CW.mono ?_; rintro _ wA ⟨rfl, RA⟩; have hA := h0.call RA; clear h0 RA CW) | (go_at_call 91; have _q := hA; refine (CX _ hA.ok).mono ?_; rintro _ w2 ⟨rfl, RB⟩; have h2 := hA.call RB; obtain ⟨r0, hrv, hrl, n0⟩ := bytes_row w2 a0 (by omega); have h1 := h2.below (Lib.bytesWorld_below w2 5 (bstr a0)); have n0 := n0.older (B' := (w.heap.size + 2)) (by have := h2.kept.size; omega); have k0 := h1.at_ (i := 53) (v := .slice none 0 0) rfl; have f0 := h1.blk.frozen 53; have y0 := h1.at_ (i := 0) (v := .int .i64 9) rfl; clear hA _q RB CX h2))
    with_reducible refine code_abs (fun w' => DHolds L w0 w1 g w.heap.size (fun k => F k ∨ w.heap.size ≤ k) 45 s1 ({ ev 9 tick node who with bytes := r0 } : EvtR).cells.toArray w' ∧ RowN byC (w.heap.size + 2) w' r0) ?_ ?_
    · exact ⟨(h1.set 53 (.slice (some ⟨w2.heap.size, 0, none⟩) (bstr a0).size (grownCap w2 (bstr a0).size 0 5))).to (by simp only [EvtR.cells, hrv]; rfl), (n0.cell (p := ⟨w.heap.size, 53, none⟩) (Nat.lt_add_of_pos_right (by decide)) (.slice (some ⟨w2.heap.size, 0, none⟩) (bstr a0).size (grownCap w2 (bstr a0).size 0 5)))⟩
    clear h1 y0 k0 f0 n0 kc hrv
    replace hrl := Lib.hid hrl
    have lb0 := hrl
    clear hrl
    rintro v1 ⟨h0, n0⟩
    have x0 := h0.at_ (i := 0) (v := .int .i64 9) rfl
    clear x0
    have hN : EvtN (w.heap.size + 2) v1 ({ ev 9 tick node who with bytes := r0 } : EvtR) := ⟨RowN.none_ _ _ _, RowN.none_ _ _ _, RowN.none_ _ _ _, RowN.none_ _ _ _, RowN.none_ _ _ _, RowN.none_ _ _ _, RowN.none_ _ _ _, n0, RowN.none_ _ _ _⟩
    have e : rBody L 9 tick node who s0 = (({ ev 9 tick node who with bytes := r0 } : EvtR).abs, s1) := by simp only [rBody, q0.out]; simp only [ev, EvtR.abs, ← lb0.out]; rfl
    have hR : Blk v1 (w.heap.size + 1) 45 zEvtR.cells.toArray := (h0.kept.block (w.heap.size + 1) (by omega) (by omega)).trans bR
    have hX := h0.blk
    have hR' : v1.heap[(w.heap.size + 1)]? = some (Obj.cells zEvtR.cells.toArray 45) := hR
    have hX' : v1.heap[w.heap.size]? = some (Obj.cells ({ ev 9 tick node who with bytes := r0 } : EvtR).cells.toArray 45) := hX
    with_reducible refine wp_region_lit ?_
    with_reducible refine wpList_load_row rfl 45 (.tmp 3) rfl w.heap.size (by kernel_rfl) 45 ({ ev 9 tick node who with bytes := r0 } : EvtR).cells.toArray (0, 0) _ hX' Tryz.underlying45 (by kernel_rfl) (by kernel_rfl) ?_
    go_frame
    with_reducible refine wpList_store_row rfl 45 (.tmp 4) (.tmp 115) rfl (w.heap.size + 1) ({ ev 9 tick node who with bytes := r0 } : EvtR).cells.toArray (by kernel_rfl) (by kernel_rfl) 45 zEvtR.cells.toArray hR' (by kernel_rfl) (by kernel_rfl) (by kernel_rfl) (wpList_nil ?_)
    have bT : (v1.setRow (w.heap.size + 1) ({ ev 9 tick node who with bytes := r0 } : EvtR).cells.toArray).heap[(w.heap.size + 1)]? = some (Obj.cells ({ ev 9 tick node who with bytes := r0 } : EvtR).cells.toArray 45) := hR.setRow_ _
    simp only [Act.put]
    repeat go_step
    (try simp only [Exit.inBlock, Exit.then])
    refine bodyPost_ret (results_cell_row rfl _ _ (w.heap.size + 1) 45 ({ ev 9 tick node who with bytes := r0 } : EvtR).cells.toArray (0, 0) _ (by kernel_rfl) bT Tryz.underlying45 (by kernel_rfl) (by kernel_rfl)) rfl ?_
    have hH := (DHolds.hold H1 h0 (Nat.le_refl _)).setRow (Nat.le_succ w.heap.size) ({ ev 9 tick node who with bytes := r0 } : EvtR).cells.toArray
    rw [e]
    exact ⟨({ ev 9 tick node who with bytes := r0 } : EvtR), rfl, rfl, (hN.setRow (by omega) _).older (by omega), hH.done⟩
  · -- kind 10
    subst hk
    have h0 : DHolds L w0 w1 g w.heap.size (fun k => F k ∨ w.heap.size ≤ k) 45 s0 (ev 10 tick node who).cells.toArray v0 := h0
    have x0 := h0.at_ (i := 0) (v := .int .i64 10) rfl
    go_upto_region 24 with (fail)
    clear x0
    obtain ⟨a0, s1, q0⟩ : ∃ a s', rTruth s0 = (a, s') := ⟨_, _, rfl⟩
    have C := dtruth_calls L w0 v0 g _ s0 h0.ok
    rw [q0] at C
    replace q0 := Lib.hid q0
    go_upto_region 35 with (go_at_call 93; refine C.mono ?_; rintro _ w2 ⟨rfl, RB⟩; have h1 := h0.call RB; have k0 := h1.at_ (i := 56) (v := .bool false) rfl; have f0 := h1.blk.frozen 56; have y0 := h1.at_ (i := 0) (v := .int .i64 10) rfl; clear h0 RB C)
    with_reducible refine code_abs (fun w' => DHolds L w0 w1 g w.heap.size (fun k => F k ∨ w.heap.size ≤ k) 45 s1 ({ ev 10 tick node who with whole := a0 } : EvtR).cells.toArray w') ?_ ?_
    · exact (h1.set 56 (.bool a0)).to (by kernel_rfl)
    clear h1 y0 k0 f0
    rintro v1 h0
    have x0 := h0.at_ (i := 0) (v := .int .i64 10) rfl
    clear x0
    have hN : EvtN (w.heap.size + 2) v1 ({ ev 10 tick node who with whole := a0 } : EvtR) := ⟨RowN.none_ _ _ _, RowN.none_ _ _ _, RowN.none_ _ _ _, RowN.none_ _ _ _, RowN.none_ _ _ _, RowN.none_ _ _ _, RowN.none_ _ _ _, RowN.none_ _ _ _, RowN.none_ _ _ _⟩
    have e : rBody L 10 tick node who s0 = (({ ev 10 tick node who with whole := a0 } : EvtR).abs, s1) := by simp only [rBody, q0.out]; rfl
    have hR : Blk v1 (w.heap.size + 1) 45 zEvtR.cells.toArray := (h0.kept.block (w.heap.size + 1) (by omega) (by omega)).trans bR
    have hX := h0.blk
    have hR' : v1.heap[(w.heap.size + 1)]? = some (Obj.cells zEvtR.cells.toArray 45) := hR
    have hX' : v1.heap[w.heap.size]? = some (Obj.cells ({ ev 10 tick node who with whole := a0 } : EvtR).cells.toArray 45) := hX
    with_reducible refine wp_region_lit ?_
    with_reducible refine wpList_load_row rfl 45 (.tmp 3) rfl w.heap.size (by kernel_rfl) 45 ({ ev 10 tick node who with whole := a0 } : EvtR).cells.toArray (0, 0) _ hX' Tryz.underlying45 (by kernel_rfl) (by kernel_rfl) ?_
    go_frame
    with_reducible refine wpList_store_row rfl 45 (.tmp 4) (.tmp 115) rfl (w.heap.size + 1) ({ ev 10 tick node who with whole := a0 } : EvtR).cells.toArray (by kernel_rfl) (by kernel_rfl) 45 zEvtR.cells.toArray hR' (by kernel_rfl) (by kernel_rfl) (by kernel_rfl) (wpList_nil ?_)
    have bT : (v1.setRow (w.heap.size + 1) ({ ev 10 tick node who with whole := a0 } : EvtR).cells.toArray).heap[(w.heap.size + 1)]? = some (Obj.cells ({ ev 10 tick node who with whole := a0 } : EvtR).cells.toArray 45) := hR.setRow_ _
    simp only [Act.put]
    repeat go_step
    (try simp only [Exit.inBlock, Exit.then])
    refine bodyPost_ret (results_cell_row rfl _ _ (w.heap.size + 1) 45 ({ ev 10 tick node who with whole := a0 } : EvtR).cells.toArray (0, 0) _ (by kernel_rfl) bT Tryz.underlying45 (by kernel_rfl) (by kernel_rfl)) rfl ?_
    have hH := (DHolds.hold H1 h0 (Nat.le_refl _)).setRow (Nat.le_succ w.heap.size) ({ ev 10 tick node who with whole := a0 } : EvtR).cells.toArray
    rw [e]
    exact ⟨({ ev 10 tick node who with whole := a0 } : EvtR), rfl, rfl, (hN.setRow (by omega) _).older (by omega), hH.done⟩
  · -- kind 11
    subst hk
    have h0 : DHolds L w0 w1 g w.heap.size (fun k => F k ∨ w.heap.size ≤ k) 45 s0 (ev 11 tick node who).cells.toArray v0 := h0
    have x0 := h0.at_ (i := 0) (v := .int .i64 11) rfl
    go_upto_region 26 with (fail)
    clear x0
    obtain ⟨a0, s1, q0⟩ : ∃ a s', rText s0 = (a, s') := ⟨_, _, rfl⟩
    have CW := dw_calls L w0 v0 g _ s0 h0.ok
    have hsh := h0.ok.head
    have G3 : rTextW (pWord s0).1 (pWord s0).2 = (a0, s1) := q0
    replace q0 := Lib.hid q0
    have hla := textW_le (pWord s0).1 (pWord s0).2
    obtain ⟨tt, sa, qa⟩ : ∃ a z, pWord s0 = (a, z) := ⟨_, _, rfl⟩
    rw [qa] at CW G3 hsh hla
    dsimp only at CW G3 hsh hla
    have CX := fun W (h : DdOK L w0 W g (fun k => (fun k => F k ∨ w.heap.size ≤ k) k ∨ w.heap.size ≤ k) sa) => dtextr_calls L w0 W g (fun k => (fun k => F k ∨ w.heap.size ≤ k) k ∨ w.heap.size ≤ k) sa h tt hsh
    rw [G3] at CX hla
    dsimp only at CX hla
    clear G3 qa
    go_upto_region 27 with (first | (go_at_call 46; refine CW.mono ?_; rintro _ wA ⟨rfl, RA⟩; have hA := h0.call RA; clear h0 RA CW) | (go_at_call 91; have _q := hA; refine (CX _ hA.ok).mono ?_; rintro _ w2 ⟨rfl, RB⟩; have h1 := hA.call RB; have k0 := h1.at_ (i := 31) (v := .string ⟨#[]⟩) rfl; have f0 := h1.blk.frozen 31; have y0 := h1.at_ (i := 0) (v := .int .i64 11) rfl; clear hA _q RB CX))
    with_reducible refine code_abs (fun w' => DHolds L w0 w1 g w.heap.size (fun k => F k ∨ w.heap.size ≤ k) 45 s1 ({ ev 11 tick node who with fet := ⟨a0, zSpn, zTag, zTag⟩ } : EvtR).cells.toArray w') ?_ ?_
    · exact (h1.set 31 (.string (bstr a0))).to (by kernel_rfl)
    clear h1 y0 k0 f0
    rintro v1 h0
    have x0 := h0.at_ (i := 0) (v := .int .i64 11) rfl
    go_upto_region 27 with (fail)
    clear x0
    obtain ⟨a1, s2, q1⟩ : ∃ a s', rSpan s1 = (a, s') := ⟨_, _, rfl⟩
    have C := dspanr_calls L w0 v1 g _ s1 h0.ok
    rw [q1] at C
    replace q1 := Lib.hid q1
    go_upto_region 28 with (go_at_call 97; refine C.mono ?_; rintro _ w2 ⟨rfl, RB⟩; have h1 := h0.call RB; have k0 := h1.at_ (i := 32) (v := .int .i64 0) rfl; have f0 := h1.blk.frozen 32; have k1 := h1.at_ (i := 33) (v := .int .i64 0) rfl; have f1 := h1.blk.frozen 33; have y0 := h1.at_ (i := 0) (v := .int .i64 11) rfl; clear h0 RB C)
    with_reducible refine code_abs (fun w' => DHolds L w0 w1 g w.heap.size (fun k => F k ∨ w.heap.size ≤ k) 45 s2 ({ ev 11 tick node who with fet := ⟨a0, a1, zTag, zTag⟩ } : EvtR).cells.toArray w') ?_ ?_
    · exact ((h1.set 32 (.int .i64 a1.frm)).set 33 (.int .i64 a1.to)).to (by kernel_rfl)
    clear h1 y0 k0 f0 k1 f1
    rintro v2 h0
    have x0 := h0.at_ (i := 0) (v := .int .i64 11) rfl
    go_upto_region 28 with (fail)
    clear x0
    obtain ⟨a2, s3, q2⟩ : ∃ a s', rTag s2 = (a, s') := ⟨_, _, rfl⟩
    have C := dtagr_calls L w0 v2 g _ s2 h0.ok
    rw [q2] at C
    replace q2 := Lib.hid q2
    go_upto_region 29 with (go_at_call 98; refine C.mono ?_; rintro _ w2 ⟨rfl, RB⟩; have h1 := h0.call RB; have k0 := h1.at_ (i := 34) (v := .string ⟨#[]⟩) rfl; have f0 := h1.blk.frozen 34; have k1 := h1.at_ (i := 35) (v := .bool false) rfl; have f1 := h1.blk.frozen 35; have y0 := h1.at_ (i := 0) (v := .int .i64 11) rfl; clear h0 RB C)
    with_reducible refine code_abs (fun w' => DHolds L w0 w1 g w.heap.size (fun k => F k ∨ w.heap.size ≤ k) 45 s3 ({ ev 11 tick node who with fet := ⟨a0, a1, a2, zTag⟩ } : EvtR).cells.toArray w') ?_ ?_
    · exact ((h1.set 34 (.string (bstr a2.text))).set 35 (.bool a2.weak)).to (by kernel_rfl)
    clear h1 y0 k0 f0 k1 f1
    rintro v3 h0
    have x0 := h0.at_ (i := 0) (v := .int .i64 11) rfl
    go_upto_region 29 with (fail)
    clear x0
    obtain ⟨a3, s4, q3⟩ : ∃ a s', rTag s3 = (a, s') := ⟨_, _, rfl⟩
    have C := dtagr_calls L w0 v3 g _ s3 h0.ok
    rw [q3] at C
    replace q3 := Lib.hid q3
    go_upto_region 35 with (go_at_call 98; refine C.mono ?_; rintro _ w2 ⟨rfl, RB⟩; have h1 := h0.call RB; have k0 := h1.at_ (i := 36) (v := .string ⟨#[]⟩) rfl; have f0 := h1.blk.frozen 36; have k1 := h1.at_ (i := 37) (v := .bool false) rfl; have f1 := h1.blk.frozen 37; have y0 := h1.at_ (i := 0) (v := .int .i64 11) rfl; clear h0 RB C)
    with_reducible refine code_abs (fun w' => DHolds L w0 w1 g w.heap.size (fun k => F k ∨ w.heap.size ≤ k) 45 s4 ({ ev 11 tick node who with fet := ⟨a0, a1, a2, a3⟩ } : EvtR).cells.toArray w') ?_ ?_
    · exact ((h1.set 36 (.string (bstr a3.text))).set 37 (.bool a3.weak)).to (by kernel_rfl)
    clear h1 y0 k0 f0 k1 f1
    rintro v4 h0
    have x0 := h0.at_ (i := 0) (v := .int .i64 11) rfl
    clear x0
    have hN : EvtN (w.heap.size + 2) v4 ({ ev 11 tick node who with fet := ⟨a0, a1, a2, a3⟩ } : EvtR) := ⟨RowN.none_ _ _ _, RowN.none_ _ _ _, RowN.none_ _ _ _, RowN.none_ _ _ _, RowN.none_ _ _ _, RowN.none_ _ _ _, RowN.none_ _ _ _, RowN.none_ _ _ _, RowN.none_ _ _ _⟩
    have e : rBody L 11 tick node who s0 = (({ ev 11 tick node who with fet := ⟨a0, a1, a2, a3⟩ } : EvtR).abs, s4) := by simp only [rBody, rFet, q0.out, q1.out, q2.out, q3.out]; rfl
    have hR : Blk v4 (w.heap.size + 1) 45 zEvtR.cells.toArray := (h0.kept.block (w.heap.size + 1) (by omega) (by omega)).trans bR
    have hX := h0.blk
    have hR' : v4.heap[(w.heap.size + 1)]? = some (Obj.cells zEvtR.cells.toArray 45) := hR
    have hX' : v4.heap[w.heap.size]? = some (Obj.cells ({ ev 11 tick node who with fet := ⟨a0, a1, a2, a3⟩ } : EvtR).cells.toArray 45) := hX
    with_reducible refine wp_region_lit ?_
    with_reducible refine wpList_load_row rfl 45 (.tmp 3) rfl w.heap.size (by kernel_rfl) 45 ({ ev 11 tick node who with fet := ⟨a0, a1, a2, a3⟩ } : EvtR).cells.toArray (0, 0) _ hX' Tryz.underlying45 (by kernel_rfl) (by kernel_rfl) ?_
    go_frame
    with_reducible refine wpList_store_row rfl 45 (.tmp 4) (.tmp 115) rfl (w.heap.size + 1) ({ ev 11 tick node who with fet := ⟨a0, a1, a2, a3⟩ } : EvtR).cells.toArray (by kernel_rfl) (by kernel_rfl) 45 zEvtR.cells.toArray hR' (by kernel_rfl) (by kernel_rfl) (by kernel_rfl) (wpList_nil ?_)
    have bT : (v4.setRow (w.heap.size + 1) ({ ev 11 tick node who with fet := ⟨a0, a1, a2, a3⟩ } : EvtR).cells.toArray).heap[(w.heap.size + 1)]? = some (Obj.cells ({ ev 11 tick node who with fet := ⟨a0, a1, a2, a3⟩ } : EvtR).cells.toArray 45) := hR.setRow_ _
    simp only [Act.put]
    repeat go_step
    (try simp only [Exit.inBlock, Exit.then])
    refine bodyPost_ret (results_cell_row rfl _ _ (w.heap.size + 1) 45 ({ ev 11 tick node who with fet := ⟨a0, a1, a2, a3⟩ } : EvtR).cells.toArray (0, 0) _ (by kernel_rfl) bT Tryz.underlying45 (by kernel_rfl) (by kernel_rfl)) rfl ?_
    have hH := (DHolds.hold H1 h0 (Nat.le_refl _)).setRow (Nat.le_succ w.heap.size) ({ ev 11 tick node who with fet := ⟨a0, a1, a2, a3⟩ } : EvtR).cells.toArray
    rw [e]
    exact ⟨({ ev 11 tick node who with fet := ⟨a0, a1, a2, a3⟩ } : EvtR), rfl, rfl, (hN.setRow (by omega) _).older (by omega), hH.done⟩
  · -- kind 12
    subst hk
    have h0 : DHolds L w0 w1 g w.heap.size (fun k => F k ∨ w.heap.size ≤ k) 45 s0 (ev 12 tick node who).cells.toArray v0 := h0
    have x0 := h0.at_ (i := 0) (v := .int .i64 12) rfl
    go_upto_region 31 with (fail)
    clear x0
    obtain ⟨a0, s1, q0⟩ : ∃ a s', rNum s0 = (a, s') := ⟨_, _, rfl⟩
    have C := dnumr_calls L w0 v0 g _ s0 h0.ok
    rw [q0] at C
    replace q0 := Lib.hid q0
    go_upto_region 32 with (go_at_call 45; refine C.mono ?_; rintro _ w2 ⟨rfl, RB⟩; have h1 := h0.call RB; have k0 := h1.at_ (i := 38) (v := .int .i64 0) rfl; have f0 := h1.blk.frozen 38; have y0 := h1.at_ (i := 0) (v := .int .i64 12) rfl; clear h0 RB C)
    with_reducible refine code_abs (fun w' => DHolds L w0 w1 g w.heap.size (fun k => F k ∨ w.heap.size ≤ k) 45 s1 ({ ev 12 tick node who with rep := (RepR.mk a0 zMetR zSpn 0) } : EvtR).cells.toArray w') ?_ ?_
    · exact (h1.set 38 (.int .i64 a0)).to (by kernel_rfl)
    clear h1 y0 k0 f0
    rintro v1 h0
    have x0 := h0.at_ (i := 0) (v := .int .i64 12) rfl
    go_upto_region 32 with (fail)
    clear x0
    obtain ⟨a1, s2, q1⟩ : ∃ a s', rMet L s1 = (a, s') := ⟨_, _, rfl⟩
    have C := dmetr_calls L w0 v1 g _ s1 h0.ok
    rw [q1] at C
    replace q1 := Lib.hid q1
    with_reducible refine wp_region_lit ?_
    with_reducible refine wpList_cutAt 4 ?_
    simp only [List.take_succ_cons, List.take_zero, List.drop_succ_cons, List.drop_zero]
    go_wp2_with (go_at_call 92; refine C.mono ?_; rintro _ w2 ⟨r1, rfl, l1, m1, RB⟩; have h1 := h0.call RB; replace l1 := Lib.hid l1; have n1 := m1.older (B' := (w.heap.size + 2)) (by have := h0.kept.size; omega); clear h0 RB C m1)
    with_reducible refine CutQ.go_ ?_
    with_reducible refine wpList_store_mid rfl 32 (.tmp 106) (.tmp 104) rfl w.heap.size 39 r1.cells.toArray (by kernel_rfl) (by kernel_rfl) (h1.blk.there 39 r1.cells.toArray.size (of_decide_eq_true (by kernel_rfl))) (by kernel_rfl) (by kernel_rfl) (wpList_nil ?_)
    have h2 := (h1.mid r1.cells 39).to (cs' := ({ ev 12 tick node who with rep := (RepR.mk a0 r1 zSpn 0) } : EvtR).cells.toArray) (by kernel_rfl)
    have n1 := RowN.cells (g := w.heap.size) (o := 39) (vs := r1.cells) n1 (Nat.lt_add_of_pos_right (by decide))
    revert h2 n1
    generalize w2.setCells w.heap.size 39 r1.cells = v2
    clear h1
    intro h0 n1
    have x0 := h0.at_ (i := 0) (v := .int .i64 12) rfl
    go_upto_region 33 with (fail)
    go_upto_region 33 with (fail)
    clear x0
    obtain ⟨a2, s3, q2⟩ : ∃ a s', rSpan s2 = (a, s') := ⟨_, _, rfl⟩
    have C := dspanr_calls L w0 v2 g _ s2 h0.ok
    rw [q2] at C
    replace q2 := Lib.hid q2
    go_upto_region 34 with (go_at_call 97; refine C.mono ?_; rintro _ w2 ⟨rfl, RB⟩; have h1 := h0.call RB; have n1 := n1.kept RB.kept (fun k hk => by omega); have k0 := h1.at_ (i := 50) (v := .int .i64 0) rfl; have f0 := h1.blk.frozen 50; have k1 := h1.at_ (i := 51) (v := .int .i64 0) rfl; have f1 := h1.blk.frozen 51; have y0 := h1.at_ (i := 0) (v := .int .i64 12) rfl; clear h0 RB C)
    with_reducible refine code_abs (fun w' => DHolds L w0 w1 g w.heap.size (fun k => F k ∨ w.heap.size ≤ k) 45 s3 ({ ev 12 tick node who with rep := (RepR.mk a0 r1 a2 0) } : EvtR).cells.toArray w' ∧ RowN txC (w.heap.size + 2) w' r1.keys) ?_ ?_
    · exact ⟨((h1.set 50 (.int .i64 a2.frm)).set 51 (.int .i64 a2.to)).to (by kernel_rfl), ((n1.cell (p := ⟨w.heap.size, 50, none⟩) (Nat.lt_add_of_pos_right (by decide)) (.int .i64 a2.frm)).cell (p := ⟨w.heap.size, 51, none⟩) (Nat.lt_add_of_pos_right (by decide)) (.int .i64 a2.to))⟩
    clear h1 y0 k0 f0 k1 f1 n1
    rintro v3 ⟨h0, n1⟩
    have x0 := h0.at_ (i := 0) (v := .int .i64 12) rfl
    go_upto_region 34 with (fail)
    clear x0
    obtain ⟨a3, s4, q3⟩ : ∃ a s', rNum s3 = (a, s') := ⟨_, _, rfl⟩
    have C := dnumr_calls L w0 v3 g _ s3 h0.ok
    rw [q3] at C
    replace q3 := Lib.hid q3
    go_upto_region 35 with (go_at_call 45; refine C.mono ?_; rintro _ w2 ⟨rfl, RB⟩; have h1 := h0.call RB; have n1 := n1.kept RB.kept (fun k hk => by omega); have k0 := h1.at_ (i := 52) (v := .int .i64 0) rfl; have f0 := h1.blk.frozen 52; have y0 := h1.at_ (i := 0) (v := .int .i64 12) rfl; clear h0 RB C)
    with_reducible refine code_abs (fun w' => DHolds L w0 w1 g w.heap.size (fun k => F k ∨ w.heap.size ≤ k) 45 s4 ({ ev 12 tick node who with rep := (RepR.mk a0 r1 a2 a3) } : EvtR).cells.toArray w' ∧ RowN txC (w.heap.size + 2) w' r1.keys) ?_ ?_
    · exact ⟨(h1.set 52 (.int .i64 a3)).to (by kernel_rfl), (n1.cell (p := ⟨w.heap.size, 52, none⟩) (Nat.lt_add_of_pos_right (by decide)) (.int .i64 a3))⟩
    clear h1 y0 k0 f0 n1
    rintro v4 ⟨h0, n1⟩
    have x0 := h0.at_ (i := 0) (v := .int .i64 12) rfl
    clear x0
    have hN : EvtN (w.heap.size + 2) v4 ({ ev 12 tick node who with rep := (RepR.mk a0 r1 a2 a3) } : EvtR) := ⟨RowN.none_ _ _ _, RowN.none_ _ _ _, RowN.none_ _ _ _, RowN.none_ _ _ _, RowN.none_ _ _ _, RowN.none_ _ _ _, n1, RowN.none_ _ _ _, RowN.none_ _ _ _⟩
    have e : rBody L 12 tick node who s0 = (({ ev 12 tick node who with rep := (RepR.mk a0 r1 a2 a3) } : EvtR).abs, s4) := by simp only [rBody, rRep, q0.out, q1.out, q2.out, q3.out]; simp only [ev, EvtR.abs, ← l1.out]; rfl
    have hR : Blk v4 (w.heap.size + 1) 45 zEvtR.cells.toArray := (h0.kept.block (w.heap.size + 1) (by omega) (by omega)).trans bR
    have hX := h0.blk
    have hR' : v4.heap[(w.heap.size + 1)]? = some (Obj.cells zEvtR.cells.toArray 45) := hR
    have hX' : v4.heap[w.heap.size]? = some (Obj.cells ({ ev 12 tick node who with rep := (RepR.mk a0 r1 a2 a3) } : EvtR).cells.toArray 45) := hX
    with_reducible refine wp_region_lit ?_
    with_reducible refine wpList_load_row rfl 45 (.tmp 3) rfl w.heap.size (by kernel_rfl) 45 ({ ev 12 tick node who with rep := (RepR.mk a0 r1 a2 a3) } : EvtR).cells.toArray (0, 0) _ hX' Tryz.underlying45 (by kernel_rfl) (by kernel_rfl) ?_
    go_frame
    with_reducible refine wpList_store_row rfl 45 (.tmp 4) (.tmp 115) rfl (w.heap.size + 1) ({ ev 12 tick node who with rep := (RepR.mk a0 r1 a2 a3) } : EvtR).cells.toArray (by kernel_rfl) (by kernel_rfl) 45 zEvtR.cells.toArray hR' (by kernel_rfl) (by kernel_rfl) (by kernel_rfl) (wpList_nil ?_)
    have bT : (v4.setRow (w.heap.size + 1) ({ ev 12 tick node who with rep := (RepR.mk a0 r1 a2 a3) } : EvtR).cells.toArray).heap[(w.heap.size + 1)]? = some (Obj.cells ({ ev 12 tick node who with rep := (RepR.mk a0 r1 a2 a3) } : EvtR).cells.toArray 45) := hR.setRow_ _
    simp only [Act.put]
    repeat go_step
    (try simp only [Exit.inBlock, Exit.then])
    refine bodyPost_ret (results_cell_row rfl _ _ (w.heap.size + 1) 45 ({ ev 12 tick node who with rep := (RepR.mk a0 r1 a2 a3) } : EvtR).cells.toArray (0, 0) _ (by kernel_rfl) bT Tryz.underlying45 (by kernel_rfl) (by kernel_rfl)) rfl ?_
    have hH := (DHolds.hold H1 h0 (Nat.le_refl _)).setRow (Nat.le_succ w.heap.size) ({ ev 12 tick node who with rep := (RepR.mk a0 r1 a2 a3) } : EvtR).cells.toArray
    rw [e]
    exact ⟨({ ev 12 tick node who with rep := (RepR.mk a0 r1 a2 a3) } : EvtR), rfl, rfl, (hN.setRow (by omega) _).older (by omega), hH.done⟩
  · -- kind 13
    subst hk
    have h0 : DHolds L w0 w1 g w.heap.size (fun k => F k ∨ w.heap.size ≤ k) 45 s0 (ev 13 tick node who).cells.toArray v0 := h0
    have x0 := h0.at_ (i := 0) (v := .int .i64 13) rfl
    go_upto_region 21 with (fail)
    clear x0
    obtain ⟨a0, s1, q0⟩ : ∃ a s', rText s0 = (a, s') := ⟨_, _, rfl⟩
    have CW := dw_calls L w0 v0 g _ s0 h0.ok
    have hsh := h0.ok.head
    have G3 : rTextW (pWord s0).1 (pWord s0).2 = (a0, s1) := q0
    replace q0 := Lib.hid q0
    have hla := textW_le (pWord s0).1 (pWord s0).2
    obtain ⟨tt, sa, qa⟩ : ∃ a z, pWord s0 = (a, z) := ⟨_, _, rfl⟩
    rw [qa] at CW G3 hsh hla
    dsimp only at CW G3 hsh hla
    have CX := fun W (h : DdOK L w0 W g (fun k => (fun k => F k ∨ w.heap.size ≤ k) k ∨ w.heap.size ≤ k) sa) => dtextr_calls L w0 W g (fun k => (fun k => F k ∨ w.heap.size ≤ k) k ∨ w.heap.size ≤ k) sa h tt hsh
    rw [G3] at CX hla
    dsimp only at CX hla
    clear G3 qa
    have kc := fun (w : World) => Lib.run_convert_string_bytes (P := Tryz.prog) w 9 43 5 (bstr a0) Tryz.underlying9 Tryz.underlying43 Tryz.underlying5
    go_upto_region 35 with (first | (go_at_call 46; refine CW.mono ?_; rintro _ wA ⟨rfl, RA⟩; have hA := h0.call RA; clear h0 RA CW) | (go_at_call 91; have _q := hA; refine (CX _ hA.ok).mono ?_; rintro _ w2 ⟨rfl, RB⟩; have h2 := hA.call RB; obtain ⟨r0, hrv, hrl, n0⟩ := bytes_row w2 a0 (by omega); have h1 := h2.below (Lib.bytesWorld_below w2 5 (bstr a0)); have n0 := n0.older (B' := (w.heap.size + 2)) (by have := h2.kept.size; omega); have k0 := h1.at_ (i := 53) (v := .slice none 0 0) rfl; have f0 := h1.blk.frozen 53; have y0 := h1.at_ (i := 0) (v := .int .i64 13) rfl; clear hA _q RB CX h2))
    with_reducible refine code_abs (fun w' => DHolds L w0 w1 g w.heap.size (fun k => F k ∨ w.heap.size ≤ k) 45 s1 ({ ev 13 tick node who with bytes := r0 } : EvtR).cells.toArray w' ∧ RowN byC (w.heap.size + 2) w' r0) ?_ ?_
    · exact ⟨(h1.set 53 (.slice (some ⟨w2.heap.size, 0, none⟩) (bstr a0).size (grownCap w2 (bstr a0).size 0 5))).to (by simp only [EvtR.cells, hrv]; rfl), (n0.cell (p := ⟨w.heap.size, 53, none⟩) (Nat.lt_add_of_pos_right (by decide)) (.slice (some ⟨w2.heap.size, 0, none⟩) (bstr a0).size (grownCap w2 (bstr a0).size 0 5)))⟩
    clear h1 y0 k0 f0 n0 kc hrv
    replace hrl := Lib.hid hrl
    have lb0 := hrl
    clear hrl
    rintro v1 ⟨h0, n0⟩
    have x0 := h0.at_ (i := 0) (v := .int .i64 13) rfl
    clear x0
    have hN : EvtN (w.heap.size + 2) v1 ({ ev 13 tick node who with bytes := r0 } : EvtR) := ⟨RowN.none_ _ _ _, RowN.none_ _ _ _, RowN.none_ _ _ _, RowN.none_ _ _ _, RowN.none_ _ _ _, RowN.none_ _ _ _, RowN.none_ _ _ _, n0, RowN.none_ _ _ _⟩
    have e : rBody L 13 tick node who s0 = (({ ev 13 tick node who with bytes := r0 } : EvtR).abs, s1) := by simp only [rBody, q0.out]; simp only [ev, EvtR.abs, ← lb0.out]; rfl
    have hR : Blk v1 (w.heap.size + 1) 45 zEvtR.cells.toArray := (h0.kept.block (w.heap.size + 1) (by omega) (by omega)).trans bR
    have hX := h0.blk
    have hR' : v1.heap[(w.heap.size + 1)]? = some (Obj.cells zEvtR.cells.toArray 45) := hR
    have hX' : v1.heap[w.heap.size]? = some (Obj.cells ({ ev 13 tick node who with bytes := r0 } : EvtR).cells.toArray 45) := hX
    with_reducible refine wp_region_lit ?_
    with_reducible refine wpList_load_row rfl 45 (.tmp 3) rfl w.heap.size (by kernel_rfl) 45 ({ ev 13 tick node who with bytes := r0 } : EvtR).cells.toArray (0, 0) _ hX' Tryz.underlying45 (by kernel_rfl) (by kernel_rfl) ?_
    go_frame
    with_reducible refine wpList_store_row rfl 45 (.tmp 4) (.tmp 115) rfl (w.heap.size + 1) ({ ev 13 tick node who with bytes := r0 } : EvtR).cells.toArray (by kernel_rfl) (by kernel_rfl) 45 zEvtR.cells.toArray hR' (by kernel_rfl) (by kernel_rfl) (by kernel_rfl) (wpList_nil ?_)
    have bT : (v1.setRow (w.heap.size + 1) ({ ev 13 tick node who with bytes := r0 } : EvtR).cells.toArray).heap[(w.heap.size + 1)]? = some (Obj.cells ({ ev 13 tick node who with bytes := r0 } : EvtR).cells.toArray 45) := hR.setRow_ _
    simp only [Act.put]
    repeat go_step
    (try simp only [Exit.inBlock, Exit.then])
    refine bodyPost_ret (results_cell_row rfl _ _ (w.heap.size + 1) 45 ({ ev 13 tick node who with bytes := r0 } : EvtR).cells.toArray (0, 0) _ (by kernel_rfl) bT Tryz.underlying45 (by kernel_rfl) (by kernel_rfl)) rfl ?_
    have hH := (DHolds.hold H1 h0 (Nat.le_refl _)).setRow (Nat.le_succ w.heap.size) ({ ev 13 tick node who with bytes := r0 } : EvtR).cells.toArray
    rw [e]
    exact ⟨({ ev 13 tick node who with bytes := r0 } : EvtR), rfl, rfl, (hN.setRow (by omega) _).older (by omega), hH.done⟩
  · -- kind 14
    subst hk
    have h0 : DHolds L w0 w1 g w.heap.size (fun k => F k ∨ w.heap.size ≤ k) 45 s0 (ev 14 tick node who).cells.toArray v0 := h0
    have x0 := h0.at_ (i := 0) (v := .int .i64 14) rfl
    go_upto_region 24 with (fail)
    clear x0
    obtain ⟨a0, s1, q0⟩ : ∃ a s', rTruth s0 = (a, s') := ⟨_, _, rfl⟩
    have C := dtruth_calls L w0 v0 g _ s0 h0.ok
    rw [q0] at C
    replace q0 := Lib.hid q0
    go_upto_region 35 with (go_at_call 93; refine C.mono ?_; rintro _ w2 ⟨rfl, RB⟩; have h1 := h0.call RB; have k0 := h1.at_ (i := 56) (v := .bool false) rfl; have f0 := h1.blk.frozen 56; have y0 := h1.at_ (i := 0) (v := .int .i64 14) rfl; clear h0 RB C)
    with_reducible refine code_abs (fun w' => DHolds L w0 w1 g w.heap.size (fun k => F k ∨ w.heap.size ≤ k) 45 s1 ({ ev 14 tick node who with whole := a0 } : EvtR).cells.toArray w') ?_ ?_
    · exact (h1.set 56 (.bool a0)).to (by kernel_rfl)
    clear h1 y0 k0 f0
    rintro v1 h0
    have x0 := h0.at_ (i := 0) (v := .int .i64 14) rfl
    clear x0
    have hN : EvtN (w.heap.size + 2) v1 ({ ev 14 tick node who with whole := a0 } : EvtR) := ⟨RowN.none_ _ _ _, RowN.none_ _ _ _, RowN.none_ _ _ _, RowN.none_ _ _ _, RowN.none_ _ _ _, RowN.none_ _ _ _, RowN.none_ _ _ _, RowN.none_ _ _ _, RowN.none_ _ _ _⟩
    have e : rBody L 14 tick node who s0 = (({ ev 14 tick node who with whole := a0 } : EvtR).abs, s1) := by simp only [rBody, q0.out]; rfl
    have hR : Blk v1 (w.heap.size + 1) 45 zEvtR.cells.toArray := (h0.kept.block (w.heap.size + 1) (by omega) (by omega)).trans bR
    have hX := h0.blk
    have hR' : v1.heap[(w.heap.size + 1)]? = some (Obj.cells zEvtR.cells.toArray 45) := hR
    have hX' : v1.heap[w.heap.size]? = some (Obj.cells ({ ev 14 tick node who with whole := a0 } : EvtR).cells.toArray 45) := hX
    with_reducible refine wp_region_lit ?_
    with_reducible refine wpList_load_row rfl 45 (.tmp 3) rfl w.heap.size (by kernel_rfl) 45 ({ ev 14 tick node who with whole := a0 } : EvtR).cells.toArray (0, 0) _ hX' Tryz.underlying45 (by kernel_rfl) (by kernel_rfl) ?_
    go_frame
    with_reducible refine wpList_store_row rfl 45 (.tmp 4) (.tmp 115) rfl (w.heap.size + 1) ({ ev 14 tick node who with whole := a0 } : EvtR).cells.toArray (by kernel_rfl) (by kernel_rfl) 45 zEvtR.cells.toArray hR' (by kernel_rfl) (by kernel_rfl) (by kernel_rfl) (wpList_nil ?_)
    have bT : (v1.setRow (w.heap.size + 1) ({ ev 14 tick node who with whole := a0 } : EvtR).cells.toArray).heap[(w.heap.size + 1)]? = some (Obj.cells ({ ev 14 tick node who with whole := a0 } : EvtR).cells.toArray 45) := hR.setRow_ _
    simp only [Act.put]
    repeat go_step
    (try simp only [Exit.inBlock, Exit.then])
    refine bodyPost_ret (results_cell_row rfl _ _ (w.heap.size + 1) 45 ({ ev 14 tick node who with whole := a0 } : EvtR).cells.toArray (0, 0) _ (by kernel_rfl) bT Tryz.underlying45 (by kernel_rfl) (by kernel_rfl)) rfl ?_
    have hH := (DHolds.hold H1 h0 (Nat.le_refl _)).setRow (Nat.le_succ w.heap.size) ({ ev 14 tick node who with whole := a0 } : EvtR).cells.toArray
    rw [e]
    exact ⟨({ ev 14 tick node who with whole := a0 } : EvtR), rfl, rfl, (hN.setRow (by omega) _).older (by omega), hH.done⟩
  · -- kind 15
    subst hk
    have h0 : DHolds L w0 w1 g w.heap.size (fun k => F k ∨ w.heap.size ≤ k) 45 s0 (ev 15 tick node who).cells.toArray v0 := h0
    have x0 := h0.at_ (i := 0) (v := .int .i64 15) rfl
    go_upto_region 35 with (fail)
    clear x0
    have hN : EvtN (w.heap.size + 2) v0 ((ev 15 tick node who) : EvtR) := ⟨RowN.none_ _ _ _, RowN.none_ _ _ _, RowN.none_ _ _ _, RowN.none_ _ _ _, RowN.none_ _ _ _, RowN.none_ _ _ _, RowN.none_ _ _ _, RowN.none_ _ _ _, RowN.none_ _ _ _⟩
    have e : rBody L 15 tick node who s0 = (((ev 15 tick node who) : EvtR).abs, s0) := by simp only [rBody]; rfl
    have hR : Blk v0 (w.heap.size + 1) 45 zEvtR.cells.toArray := (h0.kept.block (w.heap.size + 1) (by omega) (by omega)).trans bR
    have hX := h0.blk
    have hR' : v0.heap[(w.heap.size + 1)]? = some (Obj.cells zEvtR.cells.toArray 45) := hR
    have hX' : v0.heap[w.heap.size]? = some (Obj.cells ((ev 15 tick node who) : EvtR).cells.toArray 45) := hX
    with_reducible refine wp_region_lit ?_
    with_reducible refine wpList_load_row rfl 45 (.tmp 3) rfl w.heap.size (by kernel_rfl) 45 ((ev 15 tick node who) : EvtR).cells.toArray (0, 0) _ hX' Tryz.underlying45 (by kernel_rfl) (by kernel_rfl) ?_
    go_frame
    with_reducible refine wpList_store_row rfl 45 (.tmp 4) (.tmp 115) rfl (w.heap.size + 1) ((ev 15 tick node who) : EvtR).cells.toArray (by kernel_rfl) (by kernel_rfl) 45 zEvtR.cells.toArray hR' (by kernel_rfl) (by kernel_rfl) (by kernel_rfl) (wpList_nil ?_)
    have bT : (v0.setRow (w.heap.size + 1) ((ev 15 tick node who) : EvtR).cells.toArray).heap[(w.heap.size + 1)]? = some (Obj.cells ((ev 15 tick node who) : EvtR).cells.toArray 45) := hR.setRow_ _
    simp only [Act.put]
    repeat go_step
    (try simp only [Exit.inBlock, Exit.then])
    refine bodyPost_ret (results_cell_row rfl _ _ (w.heap.size + 1) 45 ((ev 15 tick node who) : EvtR).cells.toArray (0, 0) _ (by kernel_rfl) bT Tryz.underlying45 (by kernel_rfl) (by kernel_rfl)) rfl ?_
    have hH := (DHolds.hold H1 h0 (Nat.le_refl _)).setRow (Nat.le_succ w.heap.size) ((ev 15 tick node who) : EvtR).cells.toArray
    rw [e]
    exact ⟨((ev 15 tick node who) : EvtR), rfl, rfl, (hN.setRow (by omega) _).older (by omega), hH.done⟩
  · -- kind 16
    subst hk
    have h0 : DHolds L w0 w1 g w.heap.size (fun k => F k ∨ w.heap.size ≤ k) 45 s0 (ev 16 tick node who).cells.toArray v0 := h0
    have x0 := h0.at_ (i := 0) (v := .int .i64 16) rfl
    go_upto_region 35 with (fail)
    clear x0
    have hN : EvtN (w.heap.size + 2) v0 ((ev 16 tick node who) : EvtR) := ⟨RowN.none_ _ _ _, RowN.none_ _ _ _, RowN.none_ _ _ _, RowN.none_ _ _ _, RowN.none_ _ _ _, RowN.none_ _ _ _, RowN.none_ _ _ _, RowN.none_ _ _ _, RowN.none_ _ _ _⟩
    have e : rBody L 16 tick node who s0 = (((ev 16 tick node who) : EvtR).abs, s0) := by simp only [rBody]; rfl
    have hR : Blk v0 (w.heap.size + 1) 45 zEvtR.cells.toArray := (h0.kept.block (w.heap.size + 1) (by omega) (by omega)).trans bR
    have hX := h0.blk
    have hR' : v0.heap[(w.heap.size + 1)]? = some (Obj.cells zEvtR.cells.toArray 45) := hR
    have hX' : v0.heap[w.heap.size]? = some (Obj.cells ((ev 16 tick node who) : EvtR).cells.toArray 45) := hX
    with_reducible refine wp_region_lit ?_
    with_reducible refine wpList_load_row rfl 45 (.tmp 3) rfl w.heap.size (by kernel_rfl) 45 ((ev 16 tick node who) : EvtR).cells.toArray (0, 0) _ hX' Tryz.underlying45 (by kernel_rfl) (by kernel_rfl) ?_
    go_frame
    with_reducible refine wpList_store_row rfl 45 (.tmp 4) (.tmp 115) rfl (w.heap.size + 1) ((ev 16 tick node who) : EvtR).cells.toArray (by kernel_rfl) (by kernel_rfl) 45 zEvtR.cells.toArray hR' (by kernel_rfl) (by kernel_rfl) (by kernel_rfl) (wpList_nil ?_)
    have bT : (v0.setRow (w.heap.size + 1) ((ev 16 tick node who) : EvtR).cells.toArray).heap[(w.heap.size + 1)]? = some (Obj.cells ((ev 16 tick node who) : EvtR).cells.toArray 45) := hR.setRow_ _
    simp only [Act.put]
    repeat go_step
    (try simp only [Exit.inBlock, Exit.then])
    refine bodyPost_ret (results_cell_row rfl _ _ (w.heap.size + 1) 45 ((ev 16 tick node who) : EvtR).cells.toArray (0, 0) _ (by kernel_rfl) bT Tryz.underlying45 (by kernel_rfl) (by kernel_rfl)) rfl ?_
    have hH := (DHolds.hold H1 h0 (Nat.le_refl _)).setRow (Nat.le_succ w.heap.size) ((ev 16 tick node who) : EvtR).cells.toArray
    rw [e]
    exact ⟨((ev 16 tick node who) : EvtR), rfl, rfl, (hN.setRow (by omega) _).older (by omega), hH.done⟩
end Go.Proofs.YtiokbebodblhaaaGreatDoor
