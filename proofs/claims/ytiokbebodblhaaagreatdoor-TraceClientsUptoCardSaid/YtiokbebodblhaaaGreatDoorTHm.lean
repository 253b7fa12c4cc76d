/-
  A reader's method that fills a struct: the world under a name of its own.
-/
import Derived.Test.YtiokbebodblhaaaGreatDoorTraceLs
namespace Go.Proofs.YtiokbebodblhaaaGreatDoor
open Go.RowKit TraceP

theorem Holds.to {w0 w1 w : World} {g b : Nat} {F : Nat → Prop} {T : TypeId} {s : RdS} {cs cs' : Array Value} (h : Holds w0 w1 g b F T s cs w) (e : cs = cs') : Holds w0 w1 g b F T s cs' w := e ▸ h
/-- The world under a name of its own, ahead of a region. -/
theorem code_abs {P : Program} {c : Code} {Q : Exit → Act → World → Prop} {a : Act} {w : World} (S : World → Prop) (hS : S w) (h : ∀ w', S w' → c.wp P Q a w') : c.wp P Q a w := h w hS
/-- A block of the caller's own, older than the one that is filled. -/
theorem Holds.older {w0 w1 w : World} {g b k : Nat} {F : Nat → Prop} {T T' : TypeId} {s : RdS} {cs cs' : Array Value} (h : Holds w0 w1 g b F T s cs w) (hb : Blk w1 k T' cs') (hk : k < b) (hg : k ≠ g) : Blk w k T' cs' :=
  (h.kept.block k hb.lt (by omega)).trans hb
theorem RowN.setRow {α : Type} {c : α → List Value} {B g : Nat} {w : World} {r : Row α} (h : RowN c B w r) (hp : g < B) (cs : Array Value) : RowN c B (w.setRow g cs) r :=
  h.kept (F := fun k => k = g) ⟨rfl, rfl, rfl, by simp, fun k _ hk => setRow_far cs 0 (by omega)⟩ (fun k hk => hk ▸ hp)
end Go.Proofs.YtiokbebodblhaaaGreatDoor
namespace Go.Proofs.YtiokbebodblhaaaGreatDoor
open Go.RowKit TraceP
attribute [local go_sem] Row.val

set_option maxRecDepth 100000 in
set_option maxHeartbeats 3200000 in
theorem rans_calls (w0 w : World) (g : Nat) (F : Nat → Prop) (s : RdS) (H : RdOK w0 w g F s) (hS : Std w0) :
    Calls Tryz.prog 88 #[.pointer (some ⟨g, 0, none⟩)] w fun e w' => ∃ r : AnsR, e = .returned (.agg r.cells.toArray) ∧ r.abs = (pAns s).1 ∧ RowN fdC w.heap.size w' r.fields ∧ RowN ptC w.heap.size w' r.parts ∧ Reads w0 g F (pAns s).2 w w' := by
  have hg := H.lt
  have HB := (Hold.start H).alloc (.cells #[.pointer (some ⟨g, 0, none⟩)] 89)
  have bX00 := (Blk.new w 89 #[.pointer (some ⟨g, 0, none⟩)]).alloc (.cells zAnsR.cells.toArray 36)
  have bR : Blk ((w.alloc (.cells #[.pointer (some ⟨g, 0, none⟩)] 89)).alloc (.cells zAnsR.cells.toArray 36)) (w.heap.size + 1) 36 zAnsR.cells.toArray := by have := Blk.new (w.alloc (.cells #[.pointer (some ⟨g, 0, none⟩)] 89)) 36 zAnsR.cells.toArray; simpa using this
  have H0 := HB.alloc (.cells zAnsR.cells.toArray 36)
  have x0 := bX00.at_ (i := 0) (v := .pointer (some ⟨g, 0, none⟩)) rfl
  obtain ⟨a0, s1, q0⟩ : ∃ a s', pNum s = (a, s') := ⟨_, _, rfl⟩
  have C := rint_calls w0 _ g _ s H0.ok hS
  rw [q0] at C
  replace q0 := Lib.hid q0
  go_enter Tryz.func88, Tryz.ntmps88
  go_upto_region 2 with (go_at_call 81; refine C.mono ?_; rintro _ w1 ⟨rfl, R1⟩; have H1 := H0.call R1; have bR1 := bR.rd R1 (by omega); have bX1 := bX00.rd R1 (by omega); clear R1 H0 HB bR bX00 C x0)
  have hgb : g < w1.heap.size := H1.ok.lt
  have hwb : w.heap.size + 1 < w1.heap.size := bR1.lt
  have bR2 := bR1.alloc (.cells (AnsR.mk a0 noRow noRow 0).cells.toArray 36)
  have bX0 := bX1.alloc (.cells (AnsR.mk a0 noRow noRow 0).cells.toArray 36)
  have h0 := Holds.start H1.ok 36 (AnsR.mk a0 noRow noRow 0).cells.toArray
  with_reducible refine code_abs (fun w' => Holds w0 (w1.alloc (.cells (AnsR.mk a0 noRow noRow 0).cells.toArray 36)) g w1.heap.size (fun k => F k ∨ w.heap.size ≤ k) 36 s1 (AnsR.mk a0 noRow noRow 0).cells.toArray w') ?_ ?_
  · exact h0
  clear h0 bR1 bX1
  rintro v1 h0
  obtain ⟨a1, s2, q1⟩ : ∃ a s', pList pFld s1 = (a, s') := ⟨_, _, rfl⟩
  have bX := h0.older bX0 (by omega) (by omega)
  have x0 := bX.at_ (i := 0) (v := .pointer (some ⟨g, 0, none⟩)) rfl
  have C := fields_read w0 v1 g _ s1 h0.ok hS w.heap.size bX
  rw [q1] at C
  replace q1 := Lib.hid q1
  go_upto_region 3 with (go_at_call 129; refine C.mono ?_; rintro _ w2 ⟨r1, rfl, l1, m1, R⟩; have h1 := h0.call R; replace l1 := Lib.hid l1; have n1 := m1.older (B' := w1.heap.size + 1) (by have := h0.size; omega); have k0 := h1.at_ (i := 1) (v := .slice none 0 0) rfl; have f0 := h1.blk.frozen 1; clear h0 R C bX x0 m1)
  with_reducible refine code_abs (fun w' => Holds w0 (w1.alloc (.cells (AnsR.mk a0 noRow noRow 0).cells.toArray 36)) g w1.heap.size (fun k => F k ∨ w.heap.size ≤ k) 36 s2 (AnsR.mk a0 r1 noRow 0).cells.toArray w' ∧ RowN fdC (w1.heap.size + 1) w' r1) ?_ ?_
  · exact ⟨(h1.set 1 (.slice r1.A r1.l.length r1.cap)).to rfl, (n1.cell (p := ⟨w1.heap.size, 1, none⟩) (Nat.lt_succ_self _) (.slice r1.A r1.l.length r1.cap))⟩
  clear h1 k0 f0 n1
  rintro v2 ⟨h0, n1⟩
  obtain ⟨a2, s3, q2⟩ : ∃ a s', pList pPrt s2 = (a, s') := ⟨_, _, rfl⟩
  have bX := h0.older bX0 (by omega) (by omega)
  have x0 := bX.at_ (i := 0) (v := .pointer (some ⟨g, 0, none⟩)) rfl
  have C := parts_read w0 v2 g _ s2 h0.ok hS w.heap.size bX
  rw [q2] at C
  replace q2 := Lib.hid q2
  go_upto_region 4 with (go_at_call 131; refine C.mono ?_; rintro _ w2 ⟨r2, rfl, l2, m2, R⟩; have h1 := h0.call R; have n1 := n1.kept R.kept (fun k hk => by omega); replace l2 := Lib.hid l2; have n2 := m2.older (B' := w1.heap.size + 1) (by have := h0.size; omega); have k0 := h1.at_ (i := 2) (v := .slice none 0 0) rfl; have f0 := h1.blk.frozen 2; clear h0 R C bX x0 m2)
  with_reducible refine code_abs (fun w' => Holds w0 (w1.alloc (.cells (AnsR.mk a0 noRow noRow 0).cells.toArray 36)) g w1.heap.size (fun k => F k ∨ w.heap.size ≤ k) 36 s3 (AnsR.mk a0 r1 r2 0).cells.toArray w' ∧ RowN fdC (w1.heap.size + 1) w' r1 ∧ RowN ptC (w1.heap.size + 1) w' r2) ?_ ?_
  · exact ⟨(h1.set 2 (.slice r2.A r2.l.length r2.cap)).to rfl, (n1.cell (p := ⟨w1.heap.size, 2, none⟩) (Nat.lt_succ_self _) (.slice r2.A r2.l.length r2.cap)), (n2.cell (p := ⟨w1.heap.size, 2, none⟩) (Nat.lt_succ_self _) (.slice r2.A r2.l.length r2.cap))⟩
  clear h1 k0 f0 n1 n2
  rintro v3 ⟨h0, n1, n2⟩
  obtain ⟨a3, s4, q3⟩ : ∃ a s', pNum s3 = (a, s') := ⟨_, _, rfl⟩
  have bX := h0.older bX0 (by omega) (by omega)
  have x0 := bX.at_ (i := 0) (v := .pointer (some ⟨g, 0, none⟩)) rfl
  have C := rnum_calls w0 v3 g _ s3 h0.ok hS
  rw [q3] at C
  replace q3 := Lib.hid q3
  go_upto_region 5 with (go_at_call 79; refine C.mono ?_; rintro _ w2 ⟨rfl, R⟩; have h1 := h0.call R; have n1 := n1.kept R.kept (fun k hk => by omega); have n2 := n2.kept R.kept (fun k hk => by omega); have k0 := h1.at_ (i := 3) (v := .int .i64 0) rfl; have f0 := h1.blk.frozen 3; clear h0 R C bX x0)
  with_reducible refine code_abs (fun w' => Holds w0 (w1.alloc (.cells (AnsR.mk a0 noRow noRow 0).cells.toArray 36)) g w1.heap.size (fun k => F k ∨ w.heap.size ≤ k) 36 s4 (AnsR.mk a0 r1 r2 a3).cells.toArray w' ∧ RowN fdC (w1.heap.size + 1) w' r1 ∧ RowN ptC (w1.heap.size + 1) w' r2) ?_ ?_
  · exact ⟨(h1.set 3 (.int .i64 a3)).to rfl, (n1.cell (p := ⟨w1.heap.size, 3, none⟩) (Nat.lt_succ_self _) (.int .i64 a3)), (n2.cell (p := ⟨w1.heap.size, 3, none⟩) (Nat.lt_succ_self _) (.int .i64 a3))⟩
  clear h1 k0 f0 n1 n2
  rintro v4 ⟨h0, n1, n2⟩
  have hR := h0.older bR2 (by omega) (by omega)
  have hX := h0.blk
  have hR' : v4.heap[(w.heap.size + 1)]? = some (Obj.cells zAnsR.cells.toArray 36) := hR
  have hX' : v4.heap[w1.heap.size]? = some (Obj.cells (AnsR.mk a0 r1 r2 a3).cells.toArray 36) := hX
  with_reducible refine wp_region_lit ?_
  with_reducible refine wpList_load_row rfl 36 (.tmp 3) rfl w1.heap.size (by kernel_rfl) 36 (AnsR.mk a0 r1 r2 a3).cells.toArray (0, 0) _ hX' Tryz.underlying36 (by kernel_rfl) (by kernel_rfl) ?_
  go_frame
  with_reducible refine wpList_store_row rfl 36 (.tmp 2) (.tmp 18) rfl (w.heap.size + 1) (AnsR.mk a0 r1 r2 a3).cells.toArray (by kernel_rfl) (by kernel_rfl) 36 zAnsR.cells.toArray hR' (by kernel_rfl) (by kernel_rfl) (by kernel_rfl) (wpList_nil ?_)
  have bT : (v4.setRow ((w.heap.size + 1)) (AnsR.mk a0 r1 r2 a3).cells.toArray).heap[(w.heap.size + 1)]? = some (Obj.cells (AnsR.mk a0 r1 r2 a3).cells.toArray 36) := hR.setRow_ _
  simp only [Act.put]
  repeat go_step
  (try simp only [Exit.inBlock, Exit.then])
  refine bodyPost_ret (results_cell_row rfl _ _ ((w.heap.size + 1)) 36 (AnsR.mk a0 r1 r2 a3).cells.toArray (0, 0) _ (by kernel_rfl) bT Tryz.underlying36 (by kernel_rfl) (by kernel_rfl)) rfl ?_
  have hH := (H1.call h0.done).setRow (Nat.le_succ w.heap.size) (AnsR.mk a0 r1 r2 a3).cells.toArray
  have e : pAns s = (⟨a0, r1.l, r2.l, a3⟩, s4) := by unfold pAns; simp only [q0.out, q1.out, q2.out, q3.out, l1.out, l2.out]
  rw [e]
  exact ⟨(AnsR.mk a0 r1 r2 a3), rfl, rfl, (n1.setRow (by omega) _).older (by omega), (n2.setRow (by omega) _).older (by omega), hH.done⟩
end Go.Proofs.YtiokbebodblhaaaGreatDoor
namespace Go.Proofs.YtiokbebodblhaaaGreatDoor
open Go.RowKit TraceP
attribute [local go_sem] Row.val

/-- Six numbers, one behind the other. -/
def numS : Nat → RdS → RdS
  | 0, s => s
  | k + 1, s => (pNum (numS k s)).2
def numV (s : RdS) (k j : Nat) : Int := if j < k then (pNum (numS j s)).1 else 0
def metC (t : Tag) (v : Nat → Int) : Array Value := #[.string (bstr t.text), .bool t.weak, .int .i64 (v 0), .int .i64 (v 1), .int .i64 (v 2), .int .i64 (v 3), .int .i64 (v 4), .int .i64 (v 5), .slice none 0 0, .string ⟨#[]⟩, .bool false]
theorem numV_succ (s : RdS) (k : Nat) (t : Tag) (hk : k < 6) : (metC t (numV s k)).setIfInBounds (k + 2) (.int .i64 (pNum (numS k s)).1) = metC t (numV s (k + 1)) := by
  have : k = 0 ∨ k = 1 ∨ k = 2 ∨ k = 3 ∨ k = 4 ∨ k = 5 := by omega
  rcases this with rfl | rfl | rfl | rfl | rfl | rfl <;> rfl
theorem metC_at (t : Tag) (v : Nat → Int) (k : Nat) (hk : k < 6) : (metC t v)[k + 2]? = some (.int .i64 (v k)) := by
  have : k = 0 ∨ k = 1 ∨ k = 2 ∨ k = 3 ∨ k = 4 ∨ k = 5 := by omega
  rcases this with rfl | rfl | rfl | rfl | rfl | rfl <;> rfl
def ptrC (b : Nat) : Array Value := #[.pointer (some ⟨b, 2, none⟩), .pointer (some ⟨b, 3, none⟩), .pointer (some ⟨b, 4, none⟩), .pointer (some ⟨b, 5, none⟩), .pointer (some ⟨b, 6, none⟩), .pointer (some ⟨b, 7, none⟩)]
theorem ptrC_at (b k : Nat) (hk : k < 6) : (ptrC b)[k]? = some (.pointer (some ⟨b, k + 2, none⟩)) := by
  have : k = 0 ∨ k = 1 ∨ k = 2 ∨ k = 3 ∨ k = 4 ∨ k = 5 := by omega
  rcases this with rfl | rfl | rfl | rfl | rfl | rfl <;> rfl
set_option maxRecDepth 100000 in
set_option maxHeartbeats 3200000 in
theorem rmet_calls (w0 w : World) (g : Nat) (F : Nat → Prop) (s : RdS) (H : RdOK w0 w g F s) (hS : Std w0) :
    Calls Tryz.prog 83 #[.pointer (some ⟨g, 0, none⟩)] w fun e w' => ∃ m : MetR, e = .returned (.agg m.cells.toArray) ∧ m.abs = (pMet s).1 ∧ RowN txC w.heap.size w' m.keys ∧ Reads w0 g F (pMet s).2 w w' := by
  have hg := H.lt
  have H0 := (Hold.start H).alloc (.cells zMetR.cells.toArray 32)
  have bR := Blk.new w 32 zMetR.cells.toArray
  obtain ⟨a0, s1, q0⟩ : ∃ a s', pTag s = (a, s') := ⟨_, _, rfl⟩
  have C := rtag_calls w0 _ g _ s H0.ok hS
  rw [q0] at C
  replace q0 := Lib.hid q0
  go_enter Tryz.func83, Tryz.ntmps83
  go_upto_region 2 with (go_at_call 124; refine C.mono ?_; rintro _ w1 ⟨rfl, R1⟩; have H1 := H0.call R1; have bR1 := bR.rd R1 (by omega); clear R1 H0 bR C)
  have hgb : g < w1.heap.size := H1.ok.lt
  have hwb : w.heap.size < w1.heap.size := bR1.lt
  have bR2 := bR1.alloc (.cells (metC a0 (numV s1 0)) 32)
  have h0 := Holds.start H1.ok 32 (metC a0 (numV s1 0))
  with_reducible refine code_abs (fun w' => Holds w0 (w1.alloc (.cells (metC a0 (numV s1 0)) 32)) g w1.heap.size (fun k => F k ∨ w.heap.size ≤ k) 32 s1 (metC a0 (numV s1 0)) w') ?_ ?_
  · exact h0
  clear h0 bR1
  rintro v1 h0
  have h1 := h0.below (below_new v1 (.cells (ptrC w1.heap.size) 175))
  have bP := Blk.new v1 175 (ptrC w1.heap.size)
  have hs := h0.size
  go_wp2_with fail
  go_loopw [17] (fun i wr => ∃ k : Nat, k ≤ 6 ∧ i = .int .i64 (k : Int) ∧ Holds w0 (w1.alloc (.cells (metC a0 (numV s1 0)) 32)) g w1.heap.size (fun k => F k ∨ w.heap.size ≤ k) 32 (numS k s1) (metC a0 (numV s1 k)) wr ∧ Blk wr v1.heap.size 175 (ptrC w1.heap.size)) (fun i _ => 6 - (intOf i).toNat)
  case atStart => exact ⟨0, by omega, rfl, h1, bP⟩
  case round =>
    clear h1 bP h0
    obtain ⟨k, hk, rfl, h0, bP⟩ := hrel
    by_cases hlt : k < 6
    · have dec : decide ((k : Int) < 6) = true := decide_eq_true (by omega)
      have dec' : decide (k < 6) = true := decide_eq_true hlt
      have x0 := bP.at_ (ptrC_at w1.heap.size k hlt)
      have C := rnum_calls w0 wr g _ (numS k s1) h0.ok hS
      go_wp2_with (go_at_call 79; refine C.mono ?_; rintro _ w2 ⟨rfl, R⟩; have h2 := h0.call R; have bP2 := bP.rd R (by omega); have k0 := h2.at_ (metC_at a0 (numV s1 k) k hlt); have f0 := h2.blk.frozen (k + 2); clear h0 R C bP x0)
      go_roundw
      case rel => exact ⟨k + 1, by omega, by go_num, (h2.set (k + 2) _).to (numV_succ s1 k a0 hlt), bP2.far (by show v1.heap.size ≠ w1.heap.size; omega) _⟩
      case measure => simp [intOf]; omega
    · obtain rfl : k = 6 := by omega
      have dec : decide ((6 : Int) < 6) = false := rfl
      obtain ⟨d0, t1, p0⟩ : ∃ a s', pNum s1 = (a, s') := ⟨_, _, rfl⟩
      obtain ⟨d1, t2, p1⟩ : ∃ a s', pNum t1 = (a, s') := ⟨_, _, rfl⟩
      obtain ⟨d2, t3, p2⟩ : ∃ a s', pNum t2 = (a, s') := ⟨_, _, rfl⟩
      obtain ⟨d3, t4, p3⟩ : ∃ a s', pNum t3 = (a, s') := ⟨_, _, rfl⟩
      obtain ⟨d4, t5, p4⟩ : ∃ a s', pNum t4 = (a, s') := ⟨_, _, rfl⟩
      obtain ⟨d5, t6, p5⟩ : ∃ a s', pNum t5 = (a, s') := ⟨_, _, rfl⟩
      have e6 : numS 6 s1 = t6 := by simp only [numS, p0, p1, p2, p3, p4, p5]
      have e5 : metC a0 (numV s1 6) = (MetR.mk a0 d0 d1 d2 d3 d4 d5 noRow [] false).cells.toArray := by simp [metC, numV, numS, p0, p1, p2, p3, p4, p5, MetR.cells, Row.val, noRow]; rfl
      rw [e6, e5] at h0
      clear e6 e5 bP
      replace p0 := Lib.hid p0
      replace p1 := Lib.hid p1
      replace p2 := Lib.hid p2
      replace p3 := Lib.hid p3
      replace p4 := Lib.hid p4
      replace p5 := Lib.hid p5
      obtain ⟨s2, rfl⟩ : ∃ x, x = t6 := ⟨_, rfl⟩
      obtain ⟨v2, rfl⟩ : ∃ x, x = wr := ⟨_, rfl⟩
      obtain ⟨a2, s3, q2⟩ : ∃ a s', pList pText s2 = (a, s') := ⟨_, _, rfl⟩
      have C := texts_read w0 v2 g _ s2 h0.ok hS
      rw [q2] at C
      replace q2 := Lib.hid q2
      go_upto_region 8 with (go_at_call 86; refine C.mono ?_; rintro _ w2 ⟨r2, rfl, l2, m2, R⟩; have h1 := h0.call R; replace l2 := Lib.hid l2; have n2 := m2.older (B' := w1.heap.size + 1) (by have := h0.size; omega); have k0 := h1.at_ (i := 8) (v := .slice none 0 0) rfl; have f0 := h1.blk.frozen 8; clear h0 R C m2)
      with_reducible refine code_abs (fun w' => Holds w0 (w1.alloc (.cells (metC a0 (numV s1 0)) 32)) g w1.heap.size (fun k => F k ∨ w.heap.size ≤ k) 32 s3 (MetR.mk a0 d0 d1 d2 d3 d4 d5 r2 [] false).cells.toArray w' ∧ RowN txC (w1.heap.size + 1) w' r2) ?_ ?_
      · exact ⟨(h1.set 8 (.slice r2.A r2.l.length r2.cap)).to rfl, (n2.cell (p := ⟨w1.heap.size, 8, none⟩) (Nat.lt_succ_self _) (.slice r2.A r2.l.length r2.cap))⟩
      clear h1 k0 f0 n2
      rintro v3 ⟨h0, n2⟩
      obtain ⟨a3, s4, q3⟩ : ∃ a s', pText s3 = (a, s') := ⟨_, _, rfl⟩
      have C := rtext_calls w0 v3 g _ s3 h0.ok hS
      rw [q3] at C
      replace q3 := Lib.hid q3
      go_upto_region 9 with (go_at_call 82; refine C.mono ?_; rintro _ w2 ⟨rfl, R⟩; have h1 := h0.call R; have n2 := n2.kept R.kept (fun k hk => by omega); have k0 := h1.at_ (i := 9) (v := .string ⟨#[]⟩) rfl; have f0 := h1.blk.frozen 9; clear h0 R C)
      with_reducible refine code_abs (fun w' => Holds w0 (w1.alloc (.cells (metC a0 (numV s1 0)) 32)) g w1.heap.size (fun k => F k ∨ w.heap.size ≤ k) 32 s4 (MetR.mk a0 d0 d1 d2 d3 d4 d5 r2 a3 false).cells.toArray w' ∧ RowN txC (w1.heap.size + 1) w' r2) ?_ ?_
      · exact ⟨(h1.set 9 (.string (bstr a3))).to rfl, (n2.cell (p := ⟨w1.heap.size, 9, none⟩) (Nat.lt_succ_self _) (.string (bstr a3)))⟩
      clear h1 k0 f0 n2
      rintro v4 ⟨h0, n2⟩
      obtain ⟨a4, s5, q4⟩ : ∃ a s', pTruth s4 = (a, s') := ⟨_, _, rfl⟩
      have C := rtruth_calls w0 v4 g _ s4 h0.ok
      rw [q4] at C
      replace q4 := Lib.hid q4
      go_upto_region 10 with (go_at_call 85; refine C.mono ?_; rintro _ w2 ⟨rfl, R⟩; have h1 := h0.call R; have n2 := n2.kept R.kept (fun k hk => by omega); have k0 := h1.at_ (i := 10) (v := .bool false) rfl; have f0 := h1.blk.frozen 10; clear h0 R C)
      with_reducible refine code_abs (fun w' => Holds w0 (w1.alloc (.cells (metC a0 (numV s1 0)) 32)) g w1.heap.size (fun k => F k ∨ w.heap.size ≤ k) 32 s5 (MetR.mk a0 d0 d1 d2 d3 d4 d5 r2 a3 a4).cells.toArray w' ∧ RowN txC (w1.heap.size + 1) w' r2) ?_ ?_
      · exact ⟨(h1.set 10 (.bool a4)).to rfl, (n2.cell (p := ⟨w1.heap.size, 10, none⟩) (Nat.lt_succ_self _) (.bool a4))⟩
      clear h1 k0 f0 n2
      rintro v5 ⟨h0, n2⟩
      have hR := h0.older bR2 (by omega) (by omega)
      have hX := h0.blk
      have hR' : v5.heap[w.heap.size]? = some (Obj.cells zMetR.cells.toArray 32) := hR
      have hX' : v5.heap[w1.heap.size]? = some (Obj.cells (MetR.mk a0 d0 d1 d2 d3 d4 d5 r2 a3 a4).cells.toArray 32) := hX
      with_reducible refine wp_region_lit ?_
      with_reducible refine wpList_load_row rfl 32 (.tmp 3) rfl w1.heap.size (by kernel_rfl) 32 (MetR.mk a0 d0 d1 d2 d3 d4 d5 r2 a3 a4).cells.toArray (0, 0) _ hX' Tryz.underlying32 (by kernel_rfl) (by kernel_rfl) ?_
      go_frame
      with_reducible refine wpList_store_row rfl 32 (.tmp 2) (.tmp 37) rfl w.heap.size (MetR.mk a0 d0 d1 d2 d3 d4 d5 r2 a3 a4).cells.toArray (by kernel_rfl) (by kernel_rfl) 32 zMetR.cells.toArray hR' (by kernel_rfl) (by kernel_rfl) (by kernel_rfl) (wpList_nil ?_)
      have bT : (v5.setRow (w.heap.size) (MetR.mk a0 d0 d1 d2 d3 d4 d5 r2 a3 a4).cells.toArray).heap[w.heap.size]? = some (Obj.cells (MetR.mk a0 d0 d1 d2 d3 d4 d5 r2 a3 a4).cells.toArray 32) := hR.setRow_ _
      simp only [Act.put]
      repeat go_step
      (try simp only [Exit.inBlock, Exit.then])
      refine bodyPost_ret (results_cell_row rfl _ _ (w.heap.size) 32 (MetR.mk a0 d0 d1 d2 d3 d4 d5 r2 a3 a4).cells.toArray (0, 0) _ (by kernel_rfl) bT Tryz.underlying32 (by kernel_rfl) (by kernel_rfl)) rfl ?_
      have hH := (H1.call h0.done).setRow (Nat.le_refl w.heap.size) (MetR.mk a0 d0 d1 d2 d3 d4 d5 r2 a3 a4).cells.toArray
      have e : pMet s = (⟨a0, d0, d1, d2, d3, d4, d5, r2.l, a3, a4⟩, s5) := by unfold pMet; simp only [q0.out, p0.out, p1.out, p2.out, p3.out, p4.out, p5.out, q2.out, q3.out, q4.out, l2.out]
      rw [e]
      exact ⟨(MetR.mk a0 d0 d1 d2 d3 d4 d5 r2 a3 a4), rfl, rfl, (n2.setRow (by omega) _).older (by omega), hH.done⟩
end Go.Proofs.YtiokbebodblhaaaGreatDoor
namespace Go.Proofs.YtiokbebodblhaaaGreatDoor
open Go.RowKit TraceP
attribute [local go_sem] Row.val

set_option maxRecDepth 100000 in
set_option maxHeartbeats 3200000 in
theorem rfet_calls (w0 w : World) (g : Nat) (F : Nat → Prop) (s : RdS) (H : RdOK w0 w g F s) (hS : Std w0) :
    Calls Tryz.prog 89 #[.pointer (some ⟨g, 0, none⟩)] w fun e w' => e = .returned (.agg (ftC (pFet s).1).toArray) ∧ Reads w0 g F (pFet s).2 w w' := by
  have hg := H.lt
  have H0 := (Hold.start H).alloc (.cells (ftC zFet).toArray 40)
  have bR := Blk.new w 40 (ftC zFet).toArray
  obtain ⟨a0, s1, q0⟩ : ∃ a s', pText s = (a, s') := ⟨_, _, rfl⟩
  have C := rtext_calls w0 _ g _ s H0.ok hS
  rw [q0] at C
  replace q0 := Lib.hid q0
  go_enter Tryz.func89, Tryz.ntmps89
  go_upto_region 2 with (go_at_call 82; refine C.mono ?_; rintro _ w1 ⟨rfl, R1⟩; have H1 := H0.call R1; have bR1 := bR.rd R1 (by omega); clear R1 H0 bR C)
  have hgb : g < w1.heap.size := H1.ok.lt
  have hwb : w.heap.size < w1.heap.size := bR1.lt
  have bR2 := bR1.alloc (.cells (ftC ⟨a0, zSpn, zTag, zTag⟩).toArray 40)
  have h0 := Holds.start H1.ok 40 (ftC ⟨a0, zSpn, zTag, zTag⟩).toArray
  with_reducible refine code_abs (fun w' => Holds w0 (w1.alloc (.cells (ftC ⟨a0, zSpn, zTag, zTag⟩).toArray 40)) g w1.heap.size (fun k => F k ∨ w.heap.size ≤ k) 40 s1 (ftC ⟨a0, zSpn, zTag, zTag⟩).toArray w') ?_ ?_
  · exact h0
  clear h0 bR1
  rintro v1 h0
  obtain ⟨a1, s2, q1⟩ : ∃ a s', pSpan s1 = (a, s') := ⟨_, _, rfl⟩
  have C := rspan_calls w0 v1 g _ s1 h0.ok hS
  rw [q1] at C
  replace q1 := Lib.hid q1
  go_upto_region 3 with (go_at_call 127; refine C.mono ?_; rintro _ w2 ⟨rfl, R⟩; have h1 := h0.call R; have k0 := h1.at_ (i := 1) (v := .int .i64 0) rfl; have f0 := h1.blk.frozen 1; have k1 := h1.at_ (i := 2) (v := .int .i64 0) rfl; have f1 := h1.blk.frozen 2; clear h0 R C)
  with_reducible refine code_abs (fun w' => Holds w0 (w1.alloc (.cells (ftC ⟨a0, zSpn, zTag, zTag⟩).toArray 40)) g w1.heap.size (fun k => F k ∨ w.heap.size ≤ k) 40 s2 (ftC ⟨a0, a1, zTag, zTag⟩).toArray w') ?_ ?_
  · exact ((h1.set 1 (.int .i64 a1.frm)).set 2 (.int .i64 a1.to)).to rfl
  clear h1 k0 f0 k1 f1
  rintro v2 h0
  obtain ⟨a2, s3, q2⟩ : ∃ a s', pTag s2 = (a, s') := ⟨_, _, rfl⟩
  have C := rtag_calls w0 v2 g _ s2 h0.ok hS
  rw [q2] at C
  replace q2 := Lib.hid q2
  go_upto_region 4 with (go_at_call 124; refine C.mono ?_; rintro _ w2 ⟨rfl, R⟩; have h1 := h0.call R; have k0 := h1.at_ (i := 3) (v := .string ⟨#[]⟩) rfl; have f0 := h1.blk.frozen 3; have k1 := h1.at_ (i := 4) (v := .bool false) rfl; have f1 := h1.blk.frozen 4; clear h0 R C)
  with_reducible refine code_abs (fun w' => Holds w0 (w1.alloc (.cells (ftC ⟨a0, zSpn, zTag, zTag⟩).toArray 40)) g w1.heap.size (fun k => F k ∨ w.heap.size ≤ k) 40 s3 (ftC ⟨a0, a1, a2, zTag⟩).toArray w') ?_ ?_
  · exact ((h1.set 3 (.string (bstr a2.text))).set 4 (.bool a2.weak)).to rfl
  clear h1 k0 f0 k1 f1
  rintro v3 h0
  obtain ⟨a3, s4, q3⟩ : ∃ a s', pTag s3 = (a, s') := ⟨_, _, rfl⟩
  have C := rtag_calls w0 v3 g _ s3 h0.ok hS
  rw [q3] at C
  replace q3 := Lib.hid q3
  go_upto_region 5 with (go_at_call 124; refine C.mono ?_; rintro _ w2 ⟨rfl, R⟩; have h1 := h0.call R; have k0 := h1.at_ (i := 5) (v := .string ⟨#[]⟩) rfl; have f0 := h1.blk.frozen 5; have k1 := h1.at_ (i := 6) (v := .bool false) rfl; have f1 := h1.blk.frozen 6; clear h0 R C)
  with_reducible refine code_abs (fun w' => Holds w0 (w1.alloc (.cells (ftC ⟨a0, zSpn, zTag, zTag⟩).toArray 40)) g w1.heap.size (fun k => F k ∨ w.heap.size ≤ k) 40 s4 (ftC ⟨a0, a1, a2, a3⟩).toArray w') ?_ ?_
  · exact ((h1.set 5 (.string (bstr a3.text))).set 6 (.bool a3.weak)).to rfl
  clear h1 k0 f0 k1 f1
  rintro v4 h0
  have hR := h0.older bR2 (by omega) (by omega)
  have hX := h0.blk
  have hR' : v4.heap[w.heap.size]? = some (Obj.cells (ftC zFet).toArray 40) := hR
  have hX' : v4.heap[w1.heap.size]? = some (Obj.cells (ftC ⟨a0, a1, a2, a3⟩).toArray 40) := hX
  with_reducible refine wp_region_lit ?_
  with_reducible refine wpList_load_row rfl 40 (.tmp 3) rfl w1.heap.size (by kernel_rfl) 40 (ftC ⟨a0, a1, a2, a3⟩).toArray (0, 0) _ hX' Tryz.underlying40 (by kernel_rfl) (by kernel_rfl) ?_
  go_frame
  with_reducible refine wpList_store_row rfl 40 (.tmp 2) (.tmp 16) rfl w.heap.size (ftC ⟨a0, a1, a2, a3⟩).toArray (by kernel_rfl) (by kernel_rfl) 40 (ftC zFet).toArray hR' (by kernel_rfl) (by kernel_rfl) (by kernel_rfl) (wpList_nil ?_)
  have bT : (v4.setRow (w.heap.size) (ftC ⟨a0, a1, a2, a3⟩).toArray).heap[w.heap.size]? = some (Obj.cells (ftC ⟨a0, a1, a2, a3⟩).toArray 40) := hR.setRow_ _
  simp only [Act.put]
  repeat go_step
  (try simp only [Exit.inBlock, Exit.then])
  refine bodyPost_ret (results_cell_row rfl _ _ (w.heap.size) 40 (ftC ⟨a0, a1, a2, a3⟩).toArray (0, 0) _ (by kernel_rfl) bT Tryz.underlying40 (by kernel_rfl) (by kernel_rfl)) rfl ?_
  have hH := (H1.call h0.done).setRow (Nat.le_refl w.heap.size) (ftC ⟨a0, a1, a2, a3⟩).toArray
  have e : pFet s = (⟨a0, a1, a2, a3⟩, s4) := by unfold pFet; simp only [q0.out, q1.out, q2.out, q3.out]
  rw [e]
  exact ⟨rfl, hH.done⟩
set_option maxRecDepth 100000 in
set_option maxHeartbeats 3200000 in
theorem rrep_calls (w0 w : World) (g : Nat) (F : Nat → Prop) (s : RdS) (H : RdOK w0 w g F s) (hS : Std w0) :
    Calls Tryz.prog 90 #[.pointer (some ⟨g, 0, none⟩)] w fun e w' => ∃ r : RepR, e = .returned (.agg r.cells.toArray) ∧ r.abs = (pRep s).1 ∧ RowN txC w.heap.size w' r.met.keys ∧ Reads w0 g F (pRep s).2 w w' := by
  have hg := H.lt
  have H0 := (Hold.start H).alloc (.cells zRepR.cells.toArray 42)
  have bR := Blk.new w 42 zRepR.cells.toArray
  obtain ⟨a0, s1, q0⟩ : ∃ a s', pNum s = (a, s') := ⟨_, _, rfl⟩
  have C := rint_calls w0 _ g _ s H0.ok hS
  rw [q0] at C
  replace q0 := Lib.hid q0
  go_enter Tryz.func90, Tryz.ntmps90
  go_upto_region 2 with (go_at_call 81; refine C.mono ?_; rintro _ w1 ⟨rfl, R1⟩; have H1 := H0.call R1; have bR1 := bR.rd R1 (by omega); clear R1 H0 bR C)
  have hgb : g < w1.heap.size := H1.ok.lt
  have hwb : w.heap.size < w1.heap.size := bR1.lt
  have bR2 := bR1.alloc (.cells (RepR.mk a0 zMetR zSpn 0).cells.toArray 42)
  have h0 := Holds.start H1.ok 42 (RepR.mk a0 zMetR zSpn 0).cells.toArray
  with_reducible refine code_abs (fun w' => Holds w0 (w1.alloc (.cells (RepR.mk a0 zMetR zSpn 0).cells.toArray 42)) g w1.heap.size (fun k => F k ∨ w.heap.size ≤ k) 42 s1 (RepR.mk a0 zMetR zSpn 0).cells.toArray w') ?_ ?_
  · exact h0
  clear h0 bR1
  rintro v1 h0
  obtain ⟨a1, s2, q1⟩ : ∃ a s', pMet s1 = (a, s') := ⟨_, _, rfl⟩
  have C := rmet_calls w0 v1 g _ s1 h0.ok hS
  rw [q1] at C
  replace q1 := Lib.hid q1
  with_reducible refine wp_region_lit ?_
  with_reducible refine wpList_cutAt 3 ?_
  simp only [List.take_succ_cons, List.take_zero, List.drop_succ_cons, List.drop_zero]
  go_wp2_with (go_at_call 83; refine C.mono ?_; rintro _ w2 ⟨r1, rfl, l1, m1, R⟩; have h1 := h0.call R; replace l1 := Lib.hid l1; have n1 := m1.older (B' := w1.heap.size + 1) (by have := h0.size; omega); clear h0 R C m1)
  with_reducible refine CutQ.go_ ?_
  with_reducible refine wpList_store_mid rfl 32 (.tmp 9) (.tmp 8) rfl w1.heap.size 1 r1.cells.toArray (by kernel_rfl) (by kernel_rfl) (h1.blk.there 1 r1.cells.toArray.size (of_decide_eq_true (by kernel_rfl))) (by kernel_rfl) (by kernel_rfl) (wpList_nil ?_)
  have h2 := (h1.mid r1.cells 1).to (cs' := (RepR.mk a0 r1 zSpn 0).cells.toArray) (by kernel_rfl)
  have n1 := RowN.cells (g := w1.heap.size) (o := 1) (vs := r1.cells) n1 (Nat.lt_succ_self _)
  revert h2 n1
  generalize w2.setCells w1.heap.size 1 r1.cells = v2
  clear h1
  intro h0 n1
  go_upto_region 3 with (fail)
  obtain ⟨a2, s3, q2⟩ : ∃ a s', pSpan s2 = (a, s') := ⟨_, _, rfl⟩
  have C := rspan_calls w0 v2 g _ s2 h0.ok hS
  rw [q2] at C
  replace q2 := Lib.hid q2
  go_upto_region 4 with (go_at_call 127; refine C.mono ?_; rintro _ w2 ⟨rfl, R⟩; have h1 := h0.call R; have n1 := n1.kept R.kept (fun k hk => by omega); have k0 := h1.at_ (i := 12) (v := .int .i64 0) rfl; have f0 := h1.blk.frozen 12; have k1 := h1.at_ (i := 13) (v := .int .i64 0) rfl; have f1 := h1.blk.frozen 13; clear h0 R C)
  with_reducible refine code_abs (fun w' => Holds w0 (w1.alloc (.cells (RepR.mk a0 zMetR zSpn 0).cells.toArray 42)) g w1.heap.size (fun k => F k ∨ w.heap.size ≤ k) 42 s3 (RepR.mk a0 r1 a2 0).cells.toArray w' ∧ RowN txC (w1.heap.size + 1) w' r1.keys) ?_ ?_
  · exact ⟨((h1.set 12 (.int .i64 a2.frm)).set 13 (.int .i64 a2.to)).to rfl, ((n1.cell (p := ⟨w1.heap.size, 12, none⟩) (Nat.lt_succ_self _) (.int .i64 a2.frm)).cell (p := ⟨w1.heap.size, 13, none⟩) (Nat.lt_succ_self _) (.int .i64 a2.to))⟩
  clear h1 k0 f0 k1 f1 n1
  rintro v3 ⟨h0, n1⟩
  obtain ⟨a3, s4, q3⟩ : ∃ a s', pNum s3 = (a, s') := ⟨_, _, rfl⟩
  have C := rnum_calls w0 v3 g _ s3 h0.ok hS
  rw [q3] at C
  replace q3 := Lib.hid q3
  go_upto_region 5 with (go_at_call 79; refine C.mono ?_; rintro _ w2 ⟨rfl, R⟩; have h1 := h0.call R; have n1 := n1.kept R.kept (fun k hk => by omega); have k0 := h1.at_ (i := 14) (v := .int .i64 0) rfl; have f0 := h1.blk.frozen 14; clear h0 R C)
  with_reducible refine code_abs (fun w' => Holds w0 (w1.alloc (.cells (RepR.mk a0 zMetR zSpn 0).cells.toArray 42)) g w1.heap.size (fun k => F k ∨ w.heap.size ≤ k) 42 s4 (RepR.mk a0 r1 a2 a3).cells.toArray w' ∧ RowN txC (w1.heap.size + 1) w' r1.keys) ?_ ?_
  · exact ⟨(h1.set 14 (.int .i64 a3)).to rfl, (n1.cell (p := ⟨w1.heap.size, 14, none⟩) (Nat.lt_succ_self _) (.int .i64 a3))⟩
  clear h1 k0 f0 n1
  rintro v4 ⟨h0, n1⟩
  have hR := h0.older bR2 (by omega) (by omega)
  have hX := h0.blk
  have hR' : v4.heap[w.heap.size]? = some (Obj.cells zRepR.cells.toArray 42) := hR
  have hX' : v4.heap[w1.heap.size]? = some (Obj.cells (RepR.mk a0 r1 a2 a3).cells.toArray 42) := hX
  with_reducible refine wp_region_lit ?_
  with_reducible refine wpList_load_row rfl 42 (.tmp 3) rfl w1.heap.size (by kernel_rfl) 42 (RepR.mk a0 r1 a2 a3).cells.toArray (0, 0) _ hX' Tryz.underlying42 (by kernel_rfl) (by kernel_rfl) ?_
  go_frame
  with_reducible refine wpList_store_row rfl 42 (.tmp 2) (.tmp 16) rfl w.heap.size (RepR.mk a0 r1 a2 a3).cells.toArray (by kernel_rfl) (by kernel_rfl) 42 zRepR.cells.toArray hR' (by kernel_rfl) (by kernel_rfl) (by kernel_rfl) (wpList_nil ?_)
  have bT : (v4.setRow (w.heap.size) (RepR.mk a0 r1 a2 a3).cells.toArray).heap[w.heap.size]? = some (Obj.cells (RepR.mk a0 r1 a2 a3).cells.toArray 42) := hR.setRow_ _
  simp only [Act.put]
  repeat go_step
  (try simp only [Exit.inBlock, Exit.then])
  refine bodyPost_ret (results_cell_row rfl _ _ (w.heap.size) 42 (RepR.mk a0 r1 a2 a3).cells.toArray (0, 0) _ (by kernel_rfl) bT Tryz.underlying42 (by kernel_rfl) (by kernel_rfl)) rfl ?_
  have hH := (H1.call h0.done).setRow (Nat.le_refl w.heap.size) (RepR.mk a0 r1 a2 a3).cells.toArray
  have e : pRep s = (⟨a0, r1.abs, a2, a3⟩, s4) := by unfold pRep; simp only [q0.out, q1.out, q2.out, q3.out, l1.out]
  rw [e]
  exact ⟨(RepR.mk a0 r1 a2 a3), rfl, rfl, (n1.setRow (by omega) _).older (by omega), hH.done⟩
end Go.Proofs.YtiokbebodblhaaaGreatDoor
