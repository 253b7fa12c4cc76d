/-
  Walk: an event's line, or why there is none.
-/
import Derived.Test.YtiokbebodblhaaaGreatDoorTraceRt
namespace Go.Proofs.YtiokbebodblhaaaGreatDoor
open Go.RowKit TraceP

theorem line_calls (e : EvtR) (w : World) (hS : Std w) (h : EvtOK w e) (hk : 1 ≤ e.kind ∧ e.kind ≤ 16) (hF : Fits (lineW e.abs)) :
    Calls Tryz.prog 31 #[.agg e.cells.toArray] w fun e' w' => e' = .returned (.string (bstr (lineT e.abs))) ∧ Below w.heap.size w w' := by
  have K16 : e.kind = 1 ∨ e.kind = 2 ∨ e.kind = 3 ∨ e.kind = 4 ∨ e.kind = 5 ∨ e.kind = 6 ∨ e.kind = 7 ∨ e.kind = 8 ∨ e.kind = 9 ∨ e.kind = 10 ∨ e.kind = 11 ∨ e.kind = 12 ∨ e.kind = 13 ∨ e.kind = 14 ∨ e.kind = 15 ∨ e.kind = 16 := by omega
  rcases K16 with ek | ek | ek | ek | ek | ek | ek | ek | ek | ek | ek | ek | ek | ek | ek | ek
  · exact line_1 e w hS h ek hF
  · exact line_2 e w hS h ek hF
  · exact line_3 e w hS h ek hF
  · exact line_4 e w hS h ek hF
  · exact line_5 e w hS h ek hF
  · exact line_6 e w hS h ek hF
  · exact line_7 e w hS h ek hF
  · exact line_8 e w hS h ek hF
  · exact line_9 e w hS h ek hF
  · exact line_10 e w hS h ek hF
  · exact line_11 e w hS h ek hF
  · exact line_12 e w hS h ek hF
  · exact line_13 e w hS h ek hF
  · exact line_14 e w hS h ek hF
  · exact line_15 e w hS h ek hF
  · exact line_16 e w hS h ek hF

/-- What Text tells: a text, and an error's number. -/
def RetTx (r : Ending) (e : Evt) : Prop := r = .returned (.tuple #[.string (bstr (textT e)), .int .i64 (textE e)])
set_option maxRecDepth 100000 in
set_option maxHeartbeats 1600000 in
theorem tx_calls (e : EvtR) (w : World) (hS : Std w) (h : EvtOK w e) (hF : Fits (lineW e.abs)) :
    Calls Tryz.prog 13 #[.agg e.cells.toArray] w fun r w' => RetTx r e.abs ∧ Below w.heap.size w w' := by
  have B := below_new w (.cells e.cells.toArray 45)
  have bE := Blk.new w 45 e.cells.toArray
  go_enter Tryz.func13, Tryz.ntmps13
  unfold Tryz.f13
  go_step
  go_step
  with_reducible refine wp_region_lit ?_
  with_reducible refine wpList_cutAt 3 ?_
  simp only [List.take_succ_cons, List.take_zero, List.drop_succ_cons, List.drop_zero]
  repeat (first | go_values | go_skip | go_guarded | go_step | go_upon)
  with_reducible refine CutQ.go_ (wpList_nil ?_)
  go_step
  go_step
  go_step
  go_step
  go_step
  generalize w.alloc (.cells e.cells.toArray 45) = w1 at *
  have S1 := hS.below B
  have h1 := h.below B
  have bE' : w1.heap[w.heap.size]? = some (Obj.cells e.cells.toArray 45) := bE
  with_reducible refine wpList_load_row rfl 45 (.tmp 1) rfl w.heap.size (by kernel_rfl) 45 e.cells.toArray (0, 0) _ bE' Tryz.underlying45 (by kernel_rfl) (by kernel_rfl) ?_
  go_frame
  cases hb : rightB e.abs
  · have RC := right_calls w1 S1 e h1
    rw [hb] at RC
    go_wp2_with (go_at_call 30; refine RC.mono ?_; rintro _ w2 ⟨rfl, d2⟩; have B2 := B.trans (d2.mono B.size); clear d2 RC bE bE' B)
    go_ret2
    refine ⟨?_, B2⟩
    show _ = _
    unfold textT textE
    rw [hb]
    rfl
  · have RC := right_calls w1 S1 e h1
    rw [hb] at RC
    have hR := (rightB_iff _).1 hb
    go_upto_region 3 with (go_at_call 30; refine RC.mono ?_; rintro _ w2 ⟨rfl, d2⟩; have B2 := B.trans (d2.mono B.size); have bE2 := bE.below d2 bE.lt; have S2 := S1.below d2; have h2 := h1.below d2; clear d2 RC bE bE' B S1 h1)
    have bE' : w2.heap[w.heap.size]? = some (Obj.cells e.cells.toArray 45) := bE2
    with_reducible refine wp_region_lit ?_
    with_reducible refine wpList_load_row rfl 45 (.tmp 1) rfl w.heap.size (by kernel_rfl) 45 e.cells.toArray (0, 0) _ bE' Tryz.underlying45 (by kernel_rfl) (by kernel_rfl) ?_
    go_frame
    have LC := line_calls e w2 S2 h2 hR.1.1 hF
    have hl : (bstr (lineT e.abs)).size = (lineT e.abs).length := bstr_size _
    by_cases hm : 65536 < (lineT e.abs).length
    · have d0 : decide ((65536 : Int) < ((lineT e.abs).length : Int)) = true := decide_eq_true (by omega)
      go_wp2_with (go_at_call 31; refine LC.mono ?_; rintro _ w3 ⟨rfl, d3⟩; have B3 := B2.trans (d3.mono B2.size); clear d3 LC bE' bE2 B2)
      go_ret2
      refine ⟨?_, B3⟩
      show _ = _
      unfold textT textE
      rw [hb, if_pos hm, if_pos hm]
      rfl
    · have d0 : decide ((65536 : Int) < ((lineT e.abs).length : Int)) = false := decide_eq_false (by omega)
      go_wp2_with (go_at_call 31; refine LC.mono ?_; rintro _ w3 ⟨rfl, d3⟩; have B3 := B2.trans (d3.mono B2.size); clear d3 LC bE' bE2 B2)
      go_ret2
      refine ⟨?_, B3⟩
      show _ = _
      unfold textT textE
      rw [hb, if_neg hm, if_neg hm]
      rfl
end Go.Proofs.YtiokbebodblhaaaGreatDoor
namespace Go.Proofs.YtiokbebodblhaaaGreatDoor
open Go.RowKit TraceP

/-- A reader: its words (which lie in none of F's blocks), and whether something wasn't one. -/
structure RdOK (w0 w : World) (g : Nat) (F : Nat → Prop) (s : RdS) : Prop where
  ex : ∃ A c, Blk w g 92 #[.slice A s.1.length c, .bool s.2] ∧ s.1.length ≤ c ∧ c ≤ 9223372036854775807 ∧ RVF w F A (fl txC s.1)
  sh : ∀ x ∈ s.1, x.length ≤ 65536
  lo : w0.heap.size ≤ g
  hF : F g
  below : Below w0.heap.size w0 w
  few : s.1.length ≤ 100000
theorem kept_below {w0 w w' : World} {g : Nat} (lo : w0.heap.size ≤ g) (b : Below w0.heap.size w0 w) (k : Kept (fun k => k = g) w w') : Below w0.heap.size w0 w' :=
  b.trans (k.below (fun i _ hi => by rw [hi]; exact lo) b.size)
/-- A method of a reader: what it gives back, what is left; nothing else turns. -/
structure Reads (w0 : World) (g : Nat) (F : Nat → Prop) (s' : RdS) (w w' : World) : Prop where
  ok : RdOK w0 w' g F s'
  kept : Kept (· = g) w w'
theorem Reads.trans {w0 : World} {g : Nat} {F : Nat → Prop} {s s' : RdS} {a b c : World} (h : Reads w0 g F s a b) (k : Reads w0 g F s' b c) : Reads w0 g F s' a c := ⟨k.ok, h.kept.trans k.kept⟩
theorem rword_calls (w0 w : World) (g : Nat) (F : Nat → Prop) (s : RdS) (H : RdOK w0 w g F s) :
    Calls Tryz.prog 80 #[.pointer (some ⟨g, 0, none⟩)] w fun e w' => e = .returned (.string (bstr (pWord s).1)) ∧ Reads w0 g F (pWord s).2 w w' := by
  obtain ⟨⟨A, c, bk, hc, hc2, rv⟩, sh, lo, gF, bw, few⟩ := H
  obtain ⟨ws, bad⟩ := s
  cases ws with
  | nil =>
    have c0 := bk.at_ (i := 0) (v := .slice A 0 c) rfl
    have c1 := bk.at_ (i := 1) (v := .bool bad) rfl
    have f1 := bk.frozen 1
    go_enter Tryz.func80, Tryz.ntmps80
    go_wp2
    go_ret
    have b1 := bk.set_ 1 (.bool true)
    have K := (Kept.refl (fun k => k = g) w).setCell (p := ⟨g, 1, none⟩) (.inl rfl) (.bool true)
    exact ⟨rfl, ⟨⟨A, c, b1, hc, hc2, RVF.nil⟩, sh, lo, gF, kept_below lo bw K, few⟩, K⟩
  | cons t r =>
    obtain ⟨b, off, rfl, hb, hn, hv⟩ := rv (by simp [fl, txC])
    have hlt := bk.lt
    have c0 := bk.at_ (i := 0) (v := .slice (some ⟨b, off, none⟩) (r.length + 1) c) rfl
    have f0 := bk.frozen 0
    have v0 : w.cell? ⟨b, off, none⟩ = some (.string (bstr t)) := by have := hv 0 (.string (bstr t)) rfl; simpa [Addr.add] using this
    have hc' : r.length + 1 ≤ c := hc
    go_enter Tryz.func80, Tryz.ntmps80
    go_wp2
    · go_ret
      have hr : r = [] := List.eq_nil_of_length_eq_zero (by omega)
      subst hr
      have b1 := bk.set_ 0 (.slice (some ⟨b, off, none⟩) 0 0)
      have K := (Kept.refl (fun k => k = g) w).setCell (p := ⟨g, 0, none⟩) (.inl rfl) (.slice (some ⟨b, off, none⟩) 0 0)
      exact ⟨rfl, ⟨⟨_, 0, b1, Nat.le_refl _, by decide, RVF.nil⟩, fun x hx => sh x (List.mem_cons_of_mem _ hx), lo, gF, kept_below lo bw K, Nat.le_of_succ_le few⟩, K⟩
    · go_ret
      have b1 := bk.set_ 0 (.slice (some ⟨b, off + 1, none⟩) r.length (c - 1))
      have K := (Kept.refl (fun k => k = g) w).setCell (p := ⟨g, 0, none⟩) (.inl rfl) (.slice (some ⟨b, off + 1, none⟩) r.length (c - 1))
      refine ⟨rfl, ⟨⟨_, c - 1, b1, by show r.length ≤ c - 1; omega, by omega, fun hne => ⟨b, off + 1, rfl, Nat.lt_of_lt_of_le hb K.size, hn, fun j v hj => ?_⟩⟩, fun x hx => sh x (List.mem_cons_of_mem _ hx), lo, gF, kept_below lo bw K, Nat.le_of_succ_le few⟩, K⟩
      have h1 := hv (j + 1) v (by rw [fl_cons]; exact hj)
      rw [show off + 1 + j = off + (j + 1) by omega]
      exact (World.cell?_of_block (w := w) (K.block b hb (fun e => hn (e ▸ gF)))).trans h1
theorem RdOK.head {w0 w : World} {g : Nat} {F : Nat → Prop} {s : RdS} (H : RdOK w0 w g F s) : (pWord s).1.length ≤ 65536 := by
  obtain ⟨ws, b⟩ := s
  cases ws with
  | nil => exact Nat.zero_le _
  | cons t r => exact H.sh t (List.mem_cons_self ..)
theorem RdOK.bad_ {w0 w : World} {g : Nat} {F : Nat → Prop} {s : RdS} (H : RdOK w0 w g F s) : ∃ v, Blk w g 92 #[v, .bool s.2] := by
  obtain ⟨A, c, bk, _⟩ := H.ex
  exact ⟨_, bk⟩
theorem RdOK.set_ {w0 w : World} {g : Nat} {F : Nat → Prop} {s : RdS} (H : RdOK w0 w g F s) : Reads w0 g F (s.1, true) w (w.setCell ⟨g, 1, none⟩ (.bool true)) := by
  obtain ⟨⟨A, c, bk, hc, hc2, rv⟩, sh, lo, gF, bw, few⟩ := H
  have K := (Kept.refl (fun k => k = g) w).setCell (p := ⟨g, 1, none⟩) (.inl rfl) (.bool true)
  exact ⟨⟨⟨A, c, bk.set_ 1 (.bool true), hc, hc2, rv.kept (K.mono (fun k _ hk => hk ▸ gF))⟩, sh, lo, gF, kept_below lo bw K, few⟩, K⟩
theorem RdOK.kept {w0 w w' : World} {g : Nat} {F : Nat → Prop} {s : RdS} (H : RdOK w0 w g F s) (b : Below w.heap.size w w') : RdOK w0 w' g F s := by
  obtain ⟨⟨A, c, bk, hc, hc2, rv⟩, sh, lo, gF, bw, few⟩ := H
  exact ⟨⟨A, c, bk.below b bk.lt, hc, hc2, rv.kept (Kept.of_below b _)⟩, sh, lo, gF, bw.trans (b.mono bw.size), few⟩
theorem Reads.call {w0 : World} {g : Nat} {F : Nat → Prop} {s : RdS} {a b c : World} (h : Reads w0 g F s a b) (k : Below b.heap.size b c) : Reads w0 g F s a c := ⟨h.ok.kept k, h.kept.trans (Kept.of_below k _)⟩
theorem RdOK.std {w0 w : World} {g : Nat} {F : Nat → Prop} {s : RdS} (H : RdOK w0 w g F s) (hS : Std w0) : Std w := hS.below H.below
theorem Reads.set_ {w0 : World} {g : Nat} {F : Nat → Prop} {s : RdS} {a b : World} (h : Reads w0 g F s a b) : Reads w0 g F (s.1, true) a (b.setCell ⟨g, 1, none⟩ (.bool true)) := h.trans h.ok.set_
theorem rnum_calls (w0 w : World) (g : Nat) (F : Nat → Prop) (s : RdS) (H : RdOK w0 w g F s) (hS : Std w0) :
    Calls Tryz.prog 79 #[.pointer (some ⟨g, 0, none⟩)] w fun e w' => e = .returned (.int .i64 (pNum s).1) ∧ Reads w0 g F (pNum s).2 w w' := by
  have hl : (pWord s).1.length ≤ 1000000000 := Nat.le_trans H.head (by decide)
  cases hp : Lib.parseIntB 64 (pWord s).1 with
  | ok n =>
    have hq : pNum s = (n, (pWord s).2) := by unfold pNum pnum; rw [hp]
    rw [hq]
    go_enter Tryz.func79, Tryz.ntmps79
    go_wp2_with (first
      | (go_at_call 80; refine (rword_calls w0 w g F s H).mono ?_; rintro _ w1 ⟨rfl, R1⟩)
      | (go_at_call 122; refine (pint_ok _ n hp hl _).mono ?_; rintro _ w2 ⟨rfl, d2⟩; have R2 := R1.call d2; clear d2 R1))
    go_ret
    exact ⟨rfl, R2⟩
  | _ =>
    have hno : ∀ v, Lib.parseIntB 64 (pWord s).1 ≠ .ok v := by intro v hv; rw [hp] at hv; cases hv
    have hq : pNum s = (0, (pWord s).2.1, true) := by unfold pNum pnum; rw [hp]
    clear hp
    rw [hq]
    go_enter Tryz.func79, Tryz.ntmps79
    go_wp2_with (first
      | (go_at_call 80; refine (rword_calls w0 w g F s H).mono ?_; rintro _ w1 ⟨rfl, R1⟩)
      | (go_at_call 122; refine (pint_no _ hno hl _ (R1.ok.std hS)).mono ?_; rintro _ w2 ⟨v, N, rfl, d2⟩; have R2 := R1.call d2; have R3 := R2.set_; obtain ⟨u, bk⟩ := R2.ok.bad_; have c1 := bk.at_ (i := 1) (v := .bool (pWord s).2.2) rfl; have f1 := bk.frozen 1; clear d2 R1 R2 bk))
    go_ret
    exact ⟨rfl, R3⟩
theorem rint_calls (w0 w : World) (g : Nat) (F : Nat → Prop) (s : RdS) (H : RdOK w0 w g F s) (hS : Std w0) :
    Calls Tryz.prog 81 #[.pointer (some ⟨g, 0, none⟩)] w fun e w' => e = .returned (.int .i64 (pNum s).1) ∧ Reads w0 g F (pNum s).2 w w' := by
  go_enter Tryz.func81, Tryz.ntmps81
  go_wp2_with (go_at_call 79; refine (rnum_calls w0 w g F s H hS).mono ?_; rintro _ w1 ⟨rfl, R1⟩)
  go_ret
  exact ⟨rfl, R1⟩
theorem yes_eq (t : Txt) : ((bstr t).toList == [121, 101, 115]) = (t == yesT true) := by rw [bstr_list]; rfl
theorem rtruth_calls (w0 w : World) (g : Nat) (F : Nat → Prop) (s : RdS) (H : RdOK w0 w g F s) :
    Calls Tryz.prog 85 #[.pointer (some ⟨g, 0, none⟩)] w fun e w' => e = .returned (.bool (pTruth s).1) ∧ Reads w0 g F (pTruth s).2 w w' := by
  have hy := yes_eq (pWord s).1
  go_enter Tryz.func85, Tryz.ntmps85
  go_wp2_with (go_at_call 80; refine (rword_calls w0 w g F s H).mono ?_; rintro _ w1 ⟨rfl, R1⟩)
  go_ret
  exact ⟨rfl, R1⟩
/-- More blocks that the words lie in none of: those made since. -/
theorem RdOK.more {w0 w : World} {g : Nat} {F : Nat → Prop} {s : RdS} (H : RdOK w0 w g F s) {w' : World} (b : Below w.heap.size w w') : RdOK w0 w' g (fun k => F k ∨ w.heap.size ≤ k) s := by
  obtain ⟨⟨A, c, bk, hc, hc2, rv⟩, sh, lo, gF, bw, few⟩ := H
  exact ⟨⟨A, c, bk.below b bk.lt, hc, hc2, (rv.mono (G := fun k => F k ∨ w.heap.size ≤ k) (fun k hk h => h.elim id (fun h => by omega))).kept (Kept.of_below b _)⟩, sh, lo, .inl gF, bw.trans (b.mono bw.size), few⟩
theorem RdOK.less {w0 w : World} {g n : Nat} {F : Nat → Prop} {s : RdS} (H : RdOK w0 w g (fun k => F k ∨ n ≤ k) s) (hF : F g) : RdOK w0 w g F s := by
  obtain ⟨⟨A, c, bk, hc, hc2, rv⟩, sh, lo, gF, bw, few⟩ := H
  exact ⟨⟨A, c, bk, hc, hc2, rv.mono (fun k _ h => .inl h)⟩, sh, lo, hF, bw, few⟩
/-- A store into another block. -/
theorem RdOK.far {w0 w : World} {g : Nat} {F : Nat → Prop} {s : RdS} (H : RdOK w0 w g F s) {p : Addr} (hp : p.block ≠ g) (hF : F p.block) (h0 : w0.heap.size ≤ p.block) (u : Value) : RdOK w0 (w.setCell p u) g F s := by
  obtain ⟨⟨A, c, bk, hc, hc2, rv⟩, sh, lo, gF, bw, few⟩ := H
  exact ⟨⟨A, c, bk.far (fun e => hp e.symm) u, hc, hc2, rv.kept ((Kept.refl F w).setCell (.inl hF) u)⟩, sh, lo, gF, bw.setCell h0 u, few⟩
theorem rspan_calls (w0 w : World) (g : Nat) (F : Nat → Prop) (s : RdS) (H : RdOK w0 w g F s) (hS : Std w0) :
    Calls Tryz.prog 127 #[.pointer (some ⟨g, 0, none⟩)] w fun e w' => e = .returned (.agg #[.int .i64 (pSpan s).1.frm, .int .i64 (pSpan s).1.to]) ∧ Reads w0 g F (pSpan s).2 w w' := by
  have nb := below_new w (.cells #[.int .i64 0, .int .i64 0] 38)
  have bk := Blk.new w 38 #[.int .i64 0, .int .i64 0]
  have H0 := H.more nb
  have hg : g < w.heap.size := by obtain ⟨_, b⟩ := H.bad_; exact b.lt
  go_enter Tryz.func127, Tryz.ntmps127
  go_wp2_with (first
    | (go_at_call 79; have _q := H0; refine (rnum_calls w0 _ g _ s H0 hS).mono ?_; rintro _ w1 ⟨rfl, R1⟩; clear _q H0)
    | (go_at_call 79; refine (rnum_calls w0 w1 g _ (pNum s).2 R1.ok hS).mono ?_; rintro _ w2 ⟨rfl, R2⟩; have R3 := R1.trans R2; have bk2 : Blk w2 w.heap.size _ _ := (R3.kept.block w.heap.size (by simp) (by omega)).trans bk; have k0 := bk2.at_ (i := 0) (v := .int .i64 0) rfl; have k1 := bk2.at_ (i := 1) (v := .int .i64 0) rfl; have f0 := bk2.frozen 0; have f1 := bk2.frozen 1; clear R1 R2 bk))
  have lo0 : w0.heap.size ≤ w.heap.size := H.below.size
  have K := (((Kept.of_below nb (fun k => k = g)).trans R3.kept).setCell (p := ⟨w.heap.size, 0, none⟩) (.inr (Nat.le_refl _)) (.int .i64 (pNum s).1)).setCell (p := ⟨w.heap.size, 1, none⟩) (.inr (Nat.le_refl _)) (.int .i64 (pNum (pNum s).2).1)
  have O := (((R3.ok.far (p := ⟨w.heap.size, 0, none⟩) (by show w.heap.size ≠ g; omega) (.inr (Nat.le_refl _)) lo0 (.int .i64 (pNum s).1)).far (p := ⟨w.heap.size, 1, none⟩) (by show w.heap.size ≠ g; omega) (.inr (Nat.le_refl _)) lo0 (.int .i64 (pNum (pNum s).2).1))).less H.hF
  have bz := (bk2.set_ 0 (.int .i64 (pNum s).1)).set_ 1 (.int .i64 (pNum (pNum s).2).1)
  refine bodyPost_ret (results_cell_row rfl _ _ w.heap.size 38 _ (0, 0) _ rfl bz Tryz.underlying38 rfl (by kernel_rfl)) rfl ?_
  exact ⟨rfl, O, K⟩
end Go.Proofs.YtiokbebodblhaaaGreatDoor
