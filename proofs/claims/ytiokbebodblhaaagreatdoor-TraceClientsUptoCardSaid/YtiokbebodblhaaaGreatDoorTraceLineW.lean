/-
  Walks: the word of a kind; the line of an event, kind by kind. Printed by linegen.py.
-/
import Derived.Test.YtiokbebodblhaaaGreatDoorTraceWriteD
namespace Go.Proofs.YtiokbebodblhaaaGreatDoor
open Go.RowKit TraceP

theorem name_calls (n : Int) (k : Nat) (hn : n = (k : Int)) (hk : k ≤ 16) (w : World) (hS : Std w) : Calls Tryz.prog 61 #[.int .i64 n] w fun e w' => e = .returned (.string (bstr (kindT k))) ∧ w = w' := by
  subst hn
  rcases Nat.eq_zero_or_pos k with rfl | h1
  · go_enter Tryz.func61, Tryz.ntmps61
    go_wp2
    go_ret
    exact ⟨rfl, rfl⟩
  · have hc := hS.2.2.2.2 k (by omega)
    have d1 : decide ((k : Int) < 1) = false := decide_eq_false (by omega)
    have d2 : decide (17 ≤ (k : Int)) = false := decide_eq_false (by omega)
    have d1' : decide (k < 1) = false := decide_eq_false (by omega)
    have d2' : decide (17 ≤ k) = false := decide_eq_false (by omega)
    have d3 : ((k : Int) < 17) := by omega
    go_enter Tryz.func61, Tryz.ntmps61
    go_wp2
    go_ret
    exact ⟨rfl, rfl⟩
theorem join_le : ∀ (ws : List Txt) (M : Nat), (∀ x ∈ ws, x.length ≤ M) → (spT ws).length ≤ ws.length * (M + 1)
  | [], _, _ => by simp [spT]
  | [x], M, h => by have := h x (by simp); show x.length ≤ _; simp; omega
  | x :: y :: ws, M, h => by
    have h1 := h x (by simp)
    have h2 := join_le (y :: ws) M (fun z hz => h z (by simp [hz]))
    rw [spT_cons x (by simp), List.length_append, List.length_cons, List.length_cons, Nat.succ_mul]
    omega
/-- The words that a writer holds, as one text. -/
theorem wjoin_calls {w0 w : World} {ws : List Txt} {v : Value} (hw : w.ownsRow w0.heap.size 9 1 v ws.length (fl txC ws)) (hF : Fits ws) (h1 : 1 ≤ ws.length) :
    Calls Tryz.prog 73 #[v, .string ⟨#[32]⟩] w fun e w' => e = .returned (.string (bstr (spT ws))) ∧ Below w.heap.size w w' := by
  obtain ⟨A, c, rfl, hc, _⟩ := own_form hw
  have hR : RV w A (fl txC ws) := RV.of_own hw
  have hj := join_le ws 1000000 hF.2
  have h2 := hF.1
  rw [spT_join] at hj ⊢
  refine join_calls ws A c w hR hc h1 (by omega) ?_
  have : ws.length * (1000000 + 1) ≤ 10000000 * (1000000 + 1) := Nat.mul_le_mul_right _ h2
  omega
/-- A writer that was just made. -/
theorem wr_new (w : World) (base : Nat) (hb : base ≤ w.heap.size) : WrOK (w.alloc (.cells #[.slice none 0 0] 129)) base w.heap.size [] :=
  ⟨hb, .slice none 0 0, heap_alloc_new w _, ⟨rfl, .inl ⟨rfl, rfl⟩⟩, by simp [Value.ownBlock]⟩
theorem fr_old (w : World) (k : Nat) (hk : k < w.heap.size) : FrW (w.alloc (.cells #[.slice none 0 0] 129)) w.heap.size k := by
  refine ⟨by simp; omega, by omega, fun v hv => ?_⟩
  have : (w.alloc (.cells #[.slice none 0 0] 129)).cell? ⟨w.heap.size, 0, none⟩ = some (.slice none 0 0) := (Blk.new w 129 #[.slice none 0 0]).at_ rfl
  rw [this] at hv
  injection hv with hv
  subst hv
  simp [Value.ownBlock]
set_option maxHeartbeats 3200000 in
theorem line_1 (e : EvtR) (w : World) (hS : Std w) (h : EvtOK w e) (he : e.kind = 1) (hF : Fits (lineW e.abs)) :
    Calls Tryz.prog 31 #[.agg e.cells.toArray] w fun e' w' => e' = .returned (.string (bstr (lineT e.abs))) ∧ Below w.heap.size w w' := by
  have hL : lineW e.abs = ((((([] ++ [numT e.tick]) ++ [kindT 1]) ++ [wordT e.object]) ++ metW e.met.abs) ++ [wordT e.bytes.l]) := by unfold lineW nodeW bodyW; simp [EvtR.abs, he]
  have hLT : Hid (lineT e.abs = spT (((((([] ++ [numT e.tick]) ++ [kindT 1]) ++ [wordT e.object]) ++ metW e.met.abs) ++ [wordT e.bytes.l]))) := by show _ = _; unfold lineT; rw [hL]
  rw [hL] at hF
  have hFn := hF.1
  simp only [List.length_append, List.length_cons, List.length_nil] at hFn
  have b1 := Blk.new w 45 e.cells.toArray
  have B1 := below_new w (.cells e.cells.toArray 45)
  have x1 : e.cells[1]? = some (.int .i64 e.tick) := rfl
  have hsz : (w.alloc (.cells e.cells.toArray 45)).heap.size = w.heap.size + 1 := by simp
  have WN := wr_new (w.alloc (.cells e.cells.toArray 45)) w.heap.size (by simp)
  have F := fr_old (w.alloc (.cells e.cells.toArray 45)) w.heap.size (by simp)
  have B2 := B1.trans ((below_new (w.alloc (.cells e.cells.toArray 45)) (.cells #[.slice none 0 0] 129)).mono B1.size)
  rw [hsz] at WN F
  replace b1 := b1.alloc (.cells #[.slice none 0 0] 129)
  go_enter Tryz.func31, Tryz.ntmps31
  go_wp2_with fail
  generalize (w.alloc (.cells e.cells.toArray 45)).alloc (.cells #[.slice none 0 0] 129) = w1 at *
  have P1 := Wrote.refl WN
  have E1 := B2
  clear B1 hsz
  refine (number_calls w1 _ _ _ e.tick h.tick (hS.below E1) P1.ok (by simp only [List.length_append, List.length_nil, List.length_nil]; omega)).mono ?_
  rintro _ w2 ⟨rfl, Q2⟩
  have P2 := P1.trans Q2
  have E2 := B2.trans P2.below
  clear Q2 P1
  have c2_0 : w2.cell? ⟨w.heap.size, 0, none⟩ = some (.int .i64 1) := by rw [← he]; exact (b1.wr P2 F).at_ rfl
  go_wp2_with fail
  refine (name_calls 1 1 rfl (by omega) w2 (hS.below E2)).mono ?_
  rintro _ _ ⟨rfl, rfl⟩
  go_wp2_with fail
  refine (word_calls w2 _ _ _ (kindT 1) P2.ok (by simp only [List.length_append, List.length_cons, List.length_nil, List.length_nil]; omega)).mono ?_
  rintro _ w3 ⟨rfl, Q3⟩
  have P3 := P2.trans Q3
  have E3 := B2.trans P3.below
  clear Q3 P2
  have c3_0 : w3.cell? ⟨w.heap.size, 0, none⟩ = some (.int .i64 1) := by rw [← he]; exact (b1.wr P3 F).at_ rfl
  have c3_4 := (b1.wr P3 F).at_ (i := 4) (v := .string (bstr e.object)) rfl
  go_wp2_with fail
  refine (text_calls w3 _ _ _ e.object (hF.mem (by simp)) P3.ok (by simp only [List.length_append, List.length_cons, List.length_nil, List.length_nil]; omega)).mono ?_
  rintro _ w4 ⟨rfl, Q4⟩
  have P4 := P3.trans Q4
  have E4 := B2.trans P4.below
  clear Q4 P3
  have c4_0 : w4.cell? ⟨w.heap.size, 0, none⟩ = some (.int .i64 1) := by rw [← he]; exact (b1.wr P4 F).at_ rfl
  have c4_16 := (b1.wr P4 F).at_ (i := 16) (v := .string (bstr e.met.tag.text)) rfl
  have c4_17 := (b1.wr P4 F).at_ (i := 17) (v := .bool e.met.tag.weak) rfl
  have c4_18 := (b1.wr P4 F).at_ (i := 18) (v := .int .i64 e.met.modi) rfl
  have c4_19 := (b1.wr P4 F).at_ (i := 19) (v := .int .i64 e.met.len) rfl
  have c4_20 := (b1.wr P4 F).at_ (i := 20) (v := .int .i64 e.met.have_) rfl
  have c4_21 := (b1.wr P4 F).at_ (i := 21) (v := .int .i64 e.met.fresh) rfl
  have c4_22 := (b1.wr P4 F).at_ (i := 22) (v := .int .i64 e.met.while_) rfl
  have c4_23 := (b1.wr P4 F).at_ (i := 23) (v := .int .i64 e.met.error) rfl
  have c4_24 := (b1.wr P4 F).at_ (i := 24) (v := .slice e.met.keys.A e.met.keys.l.length e.met.keys.cap) rfl
  have c4_25 := (b1.wr P4 F).at_ (i := 25) (v := .string (bstr e.met.tenant)) rfl
  have c4_26 := (b1.wr P4 F).at_ (i := 26) (v := .bool e.met.keep) rfl
  go_wp2_with fail
  refine (wmeta_calls hS w4 E4 _ _ e.met h.met P4.ok (hF.sub (by simp; try omega) (fun x hx => by simp [hx])) (by simp only [List.length_append, List.length_cons, List.length_nil, List.length_nil]; omega)).mono ?_
  rintro _ w5 ⟨rfl, Q5⟩
  have P5 := P4.trans Q5
  have E5 := B2.trans P5.below
  clear Q5 P4
  have c5_0 : w5.cell? ⟨w.heap.size, 0, none⟩ = some (.int .i64 1) := by rw [← he]; exact (b1.wr P5 F).at_ rfl
  have c5_53 := (b1.wr P5 F).at_ (i := 53) (v := .slice e.bytes.A e.bytes.l.length e.bytes.cap) rfl
  have cv5 := run_str (P := Tryz.prog) w5 43 5 9 Tryz.underlying43 Tryz.underlying5 Tryz.underlying9 e.bytes.A e.bytes.l e.bytes.l.length e.bytes.cap (by have := h.bytes.rv.below E5; rw [fl_by] at this; exact this) rfl
  go_wp2_with fail
  refine (text_calls w5 _ _ _ e.bytes.l (hF.mem (by simp)) P5.ok (by simp only [List.length_append, List.length_cons, List.length_nil, List.length_nil]; omega)).mono ?_
  rintro _ w6 ⟨rfl, Q6⟩
  have P6 := P5.trans Q6
  have E6 := B2.trans P6.below
  clear Q6 P5
  obtain ⟨_, v, bg, own, _⟩ := P6.ok
  have j0 := bg.at_ (i := 0) (v := v) rfl
  rw [List.nil_append] at own
  go_wp2_with fail
  refine (wjoin_calls (w0 := w) own hF (by simp)).mono ?_
  rintro _ w7 ⟨rfl, b9⟩
  have b9' := E6.trans (b9.mono E6.size)
  go_wp2_with fail
  go_ret
  exact ⟨by rw [hLT.out]; rfl, b9'⟩
set_option maxHeartbeats 3200000 in
theorem line_2 (e : EvtR) (w : World) (hS : Std w) (h : EvtOK w e) (he : e.kind = 2) (hF : Fits (lineW e.abs)) :
    Calls Tryz.prog 31 #[.agg e.cells.toArray] w fun e' w' => e' = .returned (.string (bstr (lineT e.abs))) ∧ Below w.heap.size w w' := by
  have hL : lineW e.abs = (((([] ++ [numT e.tick]) ++ [kindT 2]) ++ [wordT e.object]) ++ [wordT e.bytes.l]) := by unfold lineW nodeW bodyW; simp [EvtR.abs, he]
  have hLT : Hid (lineT e.abs = spT ((((([] ++ [numT e.tick]) ++ [kindT 2]) ++ [wordT e.object]) ++ [wordT e.bytes.l]))) := by show _ = _; unfold lineT; rw [hL]
  rw [hL] at hF
  have hFn := hF.1
  simp only [List.length_append, List.length_cons, List.length_nil] at hFn
  have b1 := Blk.new w 45 e.cells.toArray
  have B1 := below_new w (.cells e.cells.toArray 45)
  have x1 : e.cells[1]? = some (.int .i64 e.tick) := rfl
  have hsz : (w.alloc (.cells e.cells.toArray 45)).heap.size = w.heap.size + 1 := by simp
  have WN := wr_new (w.alloc (.cells e.cells.toArray 45)) w.heap.size (by simp)
  have F := fr_old (w.alloc (.cells e.cells.toArray 45)) w.heap.size (by simp)
  have B2 := B1.trans ((below_new (w.alloc (.cells e.cells.toArray 45)) (.cells #[.slice none 0 0] 129)).mono B1.size)
  rw [hsz] at WN F
  replace b1 := b1.alloc (.cells #[.slice none 0 0] 129)
  go_enter Tryz.func31, Tryz.ntmps31
  go_wp2_with fail
  generalize (w.alloc (.cells e.cells.toArray 45)).alloc (.cells #[.slice none 0 0] 129) = w1 at *
  have P1 := Wrote.refl WN
  have E1 := B2
  clear B1 hsz
  refine (number_calls w1 _ _ _ e.tick h.tick (hS.below E1) P1.ok (by simp only [List.length_append, List.length_nil, List.length_nil]; omega)).mono ?_
  rintro _ w2 ⟨rfl, Q2⟩
  have P2 := P1.trans Q2
  have E2 := B2.trans P2.below
  clear Q2 P1
  have c2_0 : w2.cell? ⟨w.heap.size, 0, none⟩ = some (.int .i64 2) := by rw [← he]; exact (b1.wr P2 F).at_ rfl
  go_wp2_with fail
  refine (name_calls 2 2 rfl (by omega) w2 (hS.below E2)).mono ?_
  rintro _ _ ⟨rfl, rfl⟩
  go_wp2_with fail
  refine (word_calls w2 _ _ _ (kindT 2) P2.ok (by simp only [List.length_append, List.length_cons, List.length_nil, List.length_nil]; omega)).mono ?_
  rintro _ w3 ⟨rfl, Q3⟩
  have P3 := P2.trans Q3
  have E3 := B2.trans P3.below
  clear Q3 P2
  have c3_0 : w3.cell? ⟨w.heap.size, 0, none⟩ = some (.int .i64 2) := by rw [← he]; exact (b1.wr P3 F).at_ rfl
  have c3_4 := (b1.wr P3 F).at_ (i := 4) (v := .string (bstr e.object)) rfl
  go_wp2_with fail
  refine (text_calls w3 _ _ _ e.object (hF.mem (by simp)) P3.ok (by simp only [List.length_append, List.length_cons, List.length_nil, List.length_nil]; omega)).mono ?_
  rintro _ w4 ⟨rfl, Q4⟩
  have P4 := P3.trans Q4
  have E4 := B2.trans P4.below
  clear Q4 P3
  have c4_0 : w4.cell? ⟨w.heap.size, 0, none⟩ = some (.int .i64 2) := by rw [← he]; exact (b1.wr P4 F).at_ rfl
  have c4_53 := (b1.wr P4 F).at_ (i := 53) (v := .slice e.bytes.A e.bytes.l.length e.bytes.cap) rfl
  have cv4 := run_str (P := Tryz.prog) w4 43 5 9 Tryz.underlying43 Tryz.underlying5 Tryz.underlying9 e.bytes.A e.bytes.l e.bytes.l.length e.bytes.cap (by have := h.bytes.rv.below E4; rw [fl_by] at this; exact this) rfl
  go_wp2_with fail
  refine (text_calls w4 _ _ _ e.bytes.l (hF.mem (by simp)) P4.ok (by simp only [List.length_append, List.length_cons, List.length_nil, List.length_nil]; omega)).mono ?_
  rintro _ w5 ⟨rfl, Q5⟩
  have P5 := P4.trans Q5
  have E5 := B2.trans P5.below
  clear Q5 P4
  obtain ⟨_, v, bg, own, _⟩ := P5.ok
  have j0 := bg.at_ (i := 0) (v := v) rfl
  rw [List.nil_append] at own
  go_wp2_with fail
  refine (wjoin_calls (w0 := w) own hF (by simp)).mono ?_
  rintro _ w6 ⟨rfl, b9⟩
  have b9' := E5.trans (b9.mono E5.size)
  go_wp2_with fail
  go_ret
  exact ⟨by rw [hLT.out]; rfl, b9'⟩
set_option maxHeartbeats 3200000 in
theorem line_3 (e : EvtR) (w : World) (hS : Std w) (h : EvtOK w e) (he : e.kind = 3) (hF : Fits (lineW e.abs)) :
    Calls Tryz.prog 31 #[.agg e.cells.toArray] w fun e' w' => e' = .returned (.string (bstr (lineT e.abs))) ∧ Below w.heap.size w w' := by
  have hL : lineW e.abs = ((([] ++ [numT e.tick]) ++ [kindT 3]) ++ [wordT e.object]) := by unfold lineW nodeW bodyW; simp [EvtR.abs, he]
  have hLT : Hid (lineT e.abs = spT (((([] ++ [numT e.tick]) ++ [kindT 3]) ++ [wordT e.object]))) := by show _ = _; unfold lineT; rw [hL]
  rw [hL] at hF
  have hFn := hF.1
  simp only [List.length_append, List.length_cons, List.length_nil] at hFn
  have b1 := Blk.new w 45 e.cells.toArray
  have B1 := below_new w (.cells e.cells.toArray 45)
  have x1 : e.cells[1]? = some (.int .i64 e.tick) := rfl
  have hsz : (w.alloc (.cells e.cells.toArray 45)).heap.size = w.heap.size + 1 := by simp
  have WN := wr_new (w.alloc (.cells e.cells.toArray 45)) w.heap.size (by simp)
  have F := fr_old (w.alloc (.cells e.cells.toArray 45)) w.heap.size (by simp)
  have B2 := B1.trans ((below_new (w.alloc (.cells e.cells.toArray 45)) (.cells #[.slice none 0 0] 129)).mono B1.size)
  rw [hsz] at WN F
  replace b1 := b1.alloc (.cells #[.slice none 0 0] 129)
  go_enter Tryz.func31, Tryz.ntmps31
  go_wp2_with fail
  generalize (w.alloc (.cells e.cells.toArray 45)).alloc (.cells #[.slice none 0 0] 129) = w1 at *
  have P1 := Wrote.refl WN
  have E1 := B2
  clear B1 hsz
  refine (number_calls w1 _ _ _ e.tick h.tick (hS.below E1) P1.ok (by simp only [List.length_append, List.length_nil, List.length_nil]; omega)).mono ?_
  rintro _ w2 ⟨rfl, Q2⟩
  have P2 := P1.trans Q2
  have E2 := B2.trans P2.below
  clear Q2 P1
  have c2_0 : w2.cell? ⟨w.heap.size, 0, none⟩ = some (.int .i64 3) := by rw [← he]; exact (b1.wr P2 F).at_ rfl
  go_wp2_with fail
  refine (name_calls 3 3 rfl (by omega) w2 (hS.below E2)).mono ?_
  rintro _ _ ⟨rfl, rfl⟩
  go_wp2_with fail
  refine (word_calls w2 _ _ _ (kindT 3) P2.ok (by simp only [List.length_append, List.length_cons, List.length_nil, List.length_nil]; omega)).mono ?_
  rintro _ w3 ⟨rfl, Q3⟩
  have P3 := P2.trans Q3
  have E3 := B2.trans P3.below
  clear Q3 P2
  have c3_0 : w3.cell? ⟨w.heap.size, 0, none⟩ = some (.int .i64 3) := by rw [← he]; exact (b1.wr P3 F).at_ rfl
  have c3_4 := (b1.wr P3 F).at_ (i := 4) (v := .string (bstr e.object)) rfl
  go_wp2_with fail
  refine (text_calls w3 _ _ _ e.object (hF.mem (by simp)) P3.ok (by simp only [List.length_append, List.length_cons, List.length_nil, List.length_nil]; omega)).mono ?_
  rintro _ w4 ⟨rfl, Q4⟩
  have P4 := P3.trans Q4
  have E4 := B2.trans P4.below
  clear Q4 P3
  obtain ⟨_, v, bg, own, _⟩ := P4.ok
  have j0 := bg.at_ (i := 0) (v := v) rfl
  rw [List.nil_append] at own
  go_wp2_with fail
  refine (wjoin_calls (w0 := w) own hF (by simp)).mono ?_
  rintro _ w5 ⟨rfl, b9⟩
  have b9' := E4.trans (b9.mono E4.size)
  go_wp2_with fail
  go_ret
  exact ⟨by rw [hLT.out]; rfl, b9'⟩
set_option maxHeartbeats 3200000 in
theorem line_4 (e : EvtR) (w : World) (hS : Std w) (h : EvtOK w e) (he : e.kind = 4) (hF : Fits (lineW e.abs)) :
    Calls Tryz.prog 31 #[.agg e.cells.toArray] w fun e' w' => e' = .returned (.string (bstr (lineT e.abs))) ∧ Below w.heap.size w w' := by
  have hL : lineW e.abs = ((([] ++ [numT e.tick]) ++ [kindT 4]) ++ [wordT e.object]) := by unfold lineW nodeW bodyW; simp [EvtR.abs, he]
  have hLT : Hid (lineT e.abs = spT (((([] ++ [numT e.tick]) ++ [kindT 4]) ++ [wordT e.object]))) := by show _ = _; unfold lineT; rw [hL]
  rw [hL] at hF
  have hFn := hF.1
  simp only [List.length_append, List.length_cons, List.length_nil] at hFn
  have b1 := Blk.new w 45 e.cells.toArray
  have B1 := below_new w (.cells e.cells.toArray 45)
  have x1 : e.cells[1]? = some (.int .i64 e.tick) := rfl
  have hsz : (w.alloc (.cells e.cells.toArray 45)).heap.size = w.heap.size + 1 := by simp
  have WN := wr_new (w.alloc (.cells e.cells.toArray 45)) w.heap.size (by simp)
  have F := fr_old (w.alloc (.cells e.cells.toArray 45)) w.heap.size (by simp)
  have B2 := B1.trans ((below_new (w.alloc (.cells e.cells.toArray 45)) (.cells #[.slice none 0 0] 129)).mono B1.size)
  rw [hsz] at WN F
  replace b1 := b1.alloc (.cells #[.slice none 0 0] 129)
  go_enter Tryz.func31, Tryz.ntmps31
  go_wp2_with fail
  generalize (w.alloc (.cells e.cells.toArray 45)).alloc (.cells #[.slice none 0 0] 129) = w1 at *
  have P1 := Wrote.refl WN
  have E1 := B2
  clear B1 hsz
  refine (number_calls w1 _ _ _ e.tick h.tick (hS.below E1) P1.ok (by simp only [List.length_append, List.length_nil, List.length_nil]; omega)).mono ?_
  rintro _ w2 ⟨rfl, Q2⟩
  have P2 := P1.trans Q2
  have E2 := B2.trans P2.below
  clear Q2 P1
  have c2_0 : w2.cell? ⟨w.heap.size, 0, none⟩ = some (.int .i64 4) := by rw [← he]; exact (b1.wr P2 F).at_ rfl
  go_wp2_with fail
  refine (name_calls 4 4 rfl (by omega) w2 (hS.below E2)).mono ?_
  rintro _ _ ⟨rfl, rfl⟩
  go_wp2_with fail
  refine (word_calls w2 _ _ _ (kindT 4) P2.ok (by simp only [List.length_append, List.length_cons, List.length_nil, List.length_nil]; omega)).mono ?_
  rintro _ w3 ⟨rfl, Q3⟩
  have P3 := P2.trans Q3
  have E3 := B2.trans P3.below
  clear Q3 P2
  have c3_0 : w3.cell? ⟨w.heap.size, 0, none⟩ = some (.int .i64 4) := by rw [← he]; exact (b1.wr P3 F).at_ rfl
  have c3_4 := (b1.wr P3 F).at_ (i := 4) (v := .string (bstr e.object)) rfl
  go_wp2_with fail
  refine (text_calls w3 _ _ _ e.object (hF.mem (by simp)) P3.ok (by simp only [List.length_append, List.length_cons, List.length_nil, List.length_nil]; omega)).mono ?_
  rintro _ w4 ⟨rfl, Q4⟩
  have P4 := P3.trans Q4
  have E4 := B2.trans P4.below
  clear Q4 P3
  obtain ⟨_, v, bg, own, _⟩ := P4.ok
  have j0 := bg.at_ (i := 0) (v := v) rfl
  rw [List.nil_append] at own
  go_wp2_with fail
  refine (wjoin_calls (w0 := w) own hF (by simp)).mono ?_
  rintro _ w5 ⟨rfl, b9⟩
  have b9' := E4.trans (b9.mono E4.size)
  go_wp2_with fail
  go_ret
  exact ⟨by rw [hLT.out]; rfl, b9'⟩
set_option maxHeartbeats 3200000 in
theorem line_5 (e : EvtR) (w : World) (hS : Std w) (h : EvtOK w e) (he : e.kind = 5) (hF : Fits (lineW e.abs)) :
    Calls Tryz.prog 31 #[.agg e.cells.toArray] w fun e' w' => e' = .returned (.string (bstr (lineT e.abs))) ∧ Below w.heap.size w w' := by
  have hL : lineW e.abs = (((([] ++ [numT e.tick]) ++ [kindT 5]) ++ [yesT e.hard]) ++ textsW e.keys.l) := by unfold lineW nodeW bodyW; simp [EvtR.abs, he]
  have hLT : Hid (lineT e.abs = spT ((((([] ++ [numT e.tick]) ++ [kindT 5]) ++ [yesT e.hard]) ++ textsW e.keys.l))) := by show _ = _; unfold lineT; rw [hL]
  rw [hL] at hF
  have hFn := hF.1
  simp only [List.length_append, List.length_cons, List.length_nil] at hFn
  have b1 := Blk.new w 45 e.cells.toArray
  have B1 := below_new w (.cells e.cells.toArray 45)
  have x1 : e.cells[1]? = some (.int .i64 e.tick) := rfl
  have hsz : (w.alloc (.cells e.cells.toArray 45)).heap.size = w.heap.size + 1 := by simp
  have WN := wr_new (w.alloc (.cells e.cells.toArray 45)) w.heap.size (by simp)
  have F := fr_old (w.alloc (.cells e.cells.toArray 45)) w.heap.size (by simp)
  have B2 := B1.trans ((below_new (w.alloc (.cells e.cells.toArray 45)) (.cells #[.slice none 0 0] 129)).mono B1.size)
  rw [hsz] at WN F
  replace b1 := b1.alloc (.cells #[.slice none 0 0] 129)
  go_enter Tryz.func31, Tryz.ntmps31
  go_wp2_with fail
  generalize (w.alloc (.cells e.cells.toArray 45)).alloc (.cells #[.slice none 0 0] 129) = w1 at *
  have P1 := Wrote.refl WN
  have E1 := B2
  clear B1 hsz
  refine (number_calls w1 _ _ _ e.tick h.tick (hS.below E1) P1.ok (by simp only [List.length_append, List.length_nil, List.length_nil]; omega)).mono ?_
  rintro _ w2 ⟨rfl, Q2⟩
  have P2 := P1.trans Q2
  have E2 := B2.trans P2.below
  clear Q2 P1
  have c2_0 : w2.cell? ⟨w.heap.size, 0, none⟩ = some (.int .i64 5) := by rw [← he]; exact (b1.wr P2 F).at_ rfl
  go_wp2_with fail
  refine (name_calls 5 5 rfl (by omega) w2 (hS.below E2)).mono ?_
  rintro _ _ ⟨rfl, rfl⟩
  go_wp2_with fail
  refine (word_calls w2 _ _ _ (kindT 5) P2.ok (by simp only [List.length_append, List.length_cons, List.length_nil, List.length_nil]; omega)).mono ?_
  rintro _ w3 ⟨rfl, Q3⟩
  have P3 := P2.trans Q3
  have E3 := B2.trans P3.below
  clear Q3 P2
  have c3_0 : w3.cell? ⟨w.heap.size, 0, none⟩ = some (.int .i64 5) := by rw [← he]; exact (b1.wr P3 F).at_ rfl
  have c3_55 := (b1.wr P3 F).at_ (i := 55) (v := .bool e.hard) rfl
  go_wp2_with fail
  refine (truth_calls w3 _ _ _ e.hard P3.ok (by simp only [List.length_append, List.length_cons, List.length_nil, List.length_nil]; omega)).mono ?_
  rintro _ w4 ⟨rfl, Q4⟩
  have P4 := P3.trans Q4
  have E4 := B2.trans P4.below
  clear Q4 P3
  have c4_0 : w4.cell? ⟨w.heap.size, 0, none⟩ = some (.int .i64 5) := by rw [← he]; exact (b1.wr P4 F).at_ rfl
  have c4_54 := (b1.wr P4 F).at_ (i := 54) (v := .slice e.keys.A e.keys.l.length e.keys.cap) rfl
  go_wp2_with fail
  refine (wtexts_calls hS w4 E4 _ _ e.keys.A e.keys.cap e.keys.l h.keys.rv P4.ok (hF.sub (by simp; try omega) (fun x hx => by simp [hx])) (by simp only [List.length_append, List.length_cons, List.length_nil, List.length_nil]; omega)).mono ?_
  rintro _ w5 ⟨rfl, Q5⟩
  have P5 := P4.trans Q5
  have E5 := B2.trans P5.below
  clear Q5 P4
  obtain ⟨_, v, bg, own, _⟩ := P5.ok
  have j0 := bg.at_ (i := 0) (v := v) rfl
  rw [List.nil_append] at own
  go_wp2_with fail
  refine (wjoin_calls (w0 := w) own hF (by simp)).mono ?_
  rintro _ w6 ⟨rfl, b9⟩
  have b9' := E5.trans (b9.mono E5.size)
  go_wp2_with fail
  go_ret
  exact ⟨by rw [hLT.out]; rfl, b9'⟩
set_option maxHeartbeats 3200000 in
theorem line_6 (e : EvtR) (w : World) (hS : Std w) (h : EvtOK w e) (he : e.kind = 6) (hF : Fits (lineW e.abs)) :
    Calls Tryz.prog 31 #[.agg e.cells.toArray] w fun e' w' => e' = .returned (.string (bstr (lineT e.abs))) ∧ Below w.heap.size w w' := by
  have hL : lineW e.abs = ((((([] ++ [numT e.tick]) ++ [kindT 6]) ++ [numT e.node]) ++ [numT e.who]) ++ reqW e.req.abs) := by unfold lineW nodeW bodyW; simp [EvtR.abs, he]
  have hLT : Hid (lineT e.abs = spT (((((([] ++ [numT e.tick]) ++ [kindT 6]) ++ [numT e.node]) ++ [numT e.who]) ++ reqW e.req.abs))) := by show _ = _; unfold lineT; rw [hL]
  rw [hL] at hF
  have hFn := hF.1
  simp only [List.length_append, List.length_cons, List.length_nil] at hFn
  have b1 := Blk.new w 45 e.cells.toArray
  have B1 := below_new w (.cells e.cells.toArray 45)
  have x1 : e.cells[1]? = some (.int .i64 e.tick) := rfl
  have hsz : (w.alloc (.cells e.cells.toArray 45)).heap.size = w.heap.size + 1 := by simp
  have WN := wr_new (w.alloc (.cells e.cells.toArray 45)) w.heap.size (by simp)
  have F := fr_old (w.alloc (.cells e.cells.toArray 45)) w.heap.size (by simp)
  have B2 := B1.trans ((below_new (w.alloc (.cells e.cells.toArray 45)) (.cells #[.slice none 0 0] 129)).mono B1.size)
  rw [hsz] at WN F
  replace b1 := b1.alloc (.cells #[.slice none 0 0] 129)
  go_enter Tryz.func31, Tryz.ntmps31
  go_wp2_with fail
  generalize (w.alloc (.cells e.cells.toArray 45)).alloc (.cells #[.slice none 0 0] 129) = w1 at *
  have P1 := Wrote.refl WN
  have E1 := B2
  clear B1 hsz
  refine (number_calls w1 _ _ _ e.tick h.tick (hS.below E1) P1.ok (by simp only [List.length_append, List.length_nil, List.length_nil]; omega)).mono ?_
  rintro _ w2 ⟨rfl, Q2⟩
  have P2 := P1.trans Q2
  have E2 := B2.trans P2.below
  clear Q2 P1
  have c2_0 : w2.cell? ⟨w.heap.size, 0, none⟩ = some (.int .i64 6) := by rw [← he]; exact (b1.wr P2 F).at_ rfl
  go_wp2_with fail
  refine (name_calls 6 6 rfl (by omega) w2 (hS.below E2)).mono ?_
  rintro _ _ ⟨rfl, rfl⟩
  go_wp2_with fail
  refine (word_calls w2 _ _ _ (kindT 6) P2.ok (by simp only [List.length_append, List.length_cons, List.length_nil, List.length_nil]; omega)).mono ?_
  rintro _ w3 ⟨rfl, Q3⟩
  have P3 := P2.trans Q3
  have E3 := B2.trans P3.below
  clear Q3 P2
  have c3_0 : w3.cell? ⟨w.heap.size, 0, none⟩ = some (.int .i64 6) := by rw [← he]; exact (b1.wr P3 F).at_ rfl
  have c3_2 := (b1.wr P3 F).at_ (i := 2) (v := .int .i64 e.node) rfl
  go_wp2_with fail
  refine (number_calls w3 _ _ _ e.node h.node (hS.below E3) P3.ok (by simp only [List.length_append, List.length_cons, List.length_nil, List.length_nil]; omega)).mono ?_
  rintro _ w4 ⟨rfl, Q4⟩
  have P4 := P3.trans Q4
  have E4 := B2.trans P4.below
  clear Q4 P3
  have c4_0 : w4.cell? ⟨w.heap.size, 0, none⟩ = some (.int .i64 6) := by rw [← he]; exact (b1.wr P4 F).at_ rfl
  have c4_3 := (b1.wr P4 F).at_ (i := 3) (v := .int .i64 e.who) rfl
  go_wp2_with fail
  refine (number_calls w4 _ _ _ e.who h.who (hS.below E4) P4.ok (by simp only [List.length_append, List.length_cons, List.length_nil, List.length_nil]; omega)).mono ?_
  rintro _ w5 ⟨rfl, Q5⟩
  have P5 := P4.trans Q5
  have E5 := B2.trans P5.below
  clear Q5 P4
  have c5_0 : w5.cell? ⟨w.heap.size, 0, none⟩ = some (.int .i64 6) := by rw [← he]; exact (b1.wr P5 F).at_ rfl
  have c5_5 := (b1.wr P5 F).at_ (i := 5) (v := .bool e.req.head) rfl
  have c5_6 := (b1.wr P5 F).at_ (i := 6) (v := .string (bstr e.req.object)) rfl
  have c5_7 := (b1.wr P5 F).at_ (i := 7) (v := .slice e.req.specs.A e.req.specs.l.length e.req.specs.cap) rfl
  have c5_8 := (b1.wr P5 F).at_ (i := 8) (v := .slice e.req.mtch.A e.req.mtch.l.length e.req.mtch.cap) rfl
  have c5_9 := (b1.wr P5 F).at_ (i := 9) (v := .slice e.req.non.A e.req.non.l.length e.req.non.cap) rfl
  have c5_10 := (b1.wr P5 F).at_ (i := 10) (v := .bool e.req.anyM) rfl
  have c5_11 := (b1.wr P5 F).at_ (i := 11) (v := .bool e.req.anyN) rfl
  have c5_12 := (b1.wr P5 F).at_ (i := 12) (v := .int .i64 e.req.since) rfl
  have c5_13 := (b1.wr P5 F).at_ (i := 13) (v := .int .i64 e.req.unless_) rfl
  have c5_14 := (b1.wr P5 F).at_ (i := 14) (v := .string (bstr e.req.range.text)) rfl
  have c5_15 := (b1.wr P5 F).at_ (i := 15) (v := .bool e.req.range.weak) rfl
  go_wp2_with fail
  refine (wrequest_calls hS w5 E5 _ _ e.req h.req P5.ok (hF.sub (by simp; try omega) (fun x hx => by simp [hx])) (by simp only [List.length_append, List.length_cons, List.length_nil, List.length_nil]; omega)).mono ?_
  rintro _ w6 ⟨rfl, Q6⟩
  have P6 := P5.trans Q6
  have E6 := B2.trans P6.below
  clear Q6 P5
  obtain ⟨_, v, bg, own, _⟩ := P6.ok
  have j0 := bg.at_ (i := 0) (v := v) rfl
  rw [List.nil_append] at own
  go_wp2_with fail
  refine (wjoin_calls (w0 := w) own hF (by simp)).mono ?_
  rintro _ w7 ⟨rfl, b9⟩
  have b9' := E6.trans (b9.mono E6.size)
  go_wp2_with fail
  go_ret
  exact ⟨by rw [hLT.out]; rfl, b9'⟩
set_option maxHeartbeats 3200000 in
theorem line_7 (e : EvtR) (w : World) (hS : Std w) (h : EvtOK w e) (he : e.kind = 7) (hF : Fits (lineW e.abs)) :
    Calls Tryz.prog 31 #[.agg e.cells.toArray] w fun e' w' => e' = .returned (.string (bstr (lineT e.abs))) ∧ Below w.heap.size w w' := by
  have hL : lineW e.abs = (((([] ++ [numT e.tick]) ++ [kindT 7]) ++ [numT e.node]) ++ [numT e.who]) := by unfold lineW nodeW bodyW; simp [EvtR.abs, he]
  have hLT : Hid (lineT e.abs = spT ((((([] ++ [numT e.tick]) ++ [kindT 7]) ++ [numT e.node]) ++ [numT e.who]))) := by show _ = _; unfold lineT; rw [hL]
  rw [hL] at hF
  have hFn := hF.1
  simp only [List.length_append, List.length_cons, List.length_nil] at hFn
  have b1 := Blk.new w 45 e.cells.toArray
  have B1 := below_new w (.cells e.cells.toArray 45)
  have x1 : e.cells[1]? = some (.int .i64 e.tick) := rfl
  have hsz : (w.alloc (.cells e.cells.toArray 45)).heap.size = w.heap.size + 1 := by simp
  have WN := wr_new (w.alloc (.cells e.cells.toArray 45)) w.heap.size (by simp)
  have F := fr_old (w.alloc (.cells e.cells.toArray 45)) w.heap.size (by simp)
  have B2 := B1.trans ((below_new (w.alloc (.cells e.cells.toArray 45)) (.cells #[.slice none 0 0] 129)).mono B1.size)
  rw [hsz] at WN F
  replace b1 := b1.alloc (.cells #[.slice none 0 0] 129)
  go_enter Tryz.func31, Tryz.ntmps31
  go_wp2_with fail
  generalize (w.alloc (.cells e.cells.toArray 45)).alloc (.cells #[.slice none 0 0] 129) = w1 at *
  have P1 := Wrote.refl WN
  have E1 := B2
  clear B1 hsz
  refine (number_calls w1 _ _ _ e.tick h.tick (hS.below E1) P1.ok (by simp only [List.length_append, List.length_nil, List.length_nil]; omega)).mono ?_
  rintro _ w2 ⟨rfl, Q2⟩
  have P2 := P1.trans Q2
  have E2 := B2.trans P2.below
  clear Q2 P1
  have c2_0 : w2.cell? ⟨w.heap.size, 0, none⟩ = some (.int .i64 7) := by rw [← he]; exact (b1.wr P2 F).at_ rfl
  go_wp2_with fail
  refine (name_calls 7 7 rfl (by omega) w2 (hS.below E2)).mono ?_
  rintro _ _ ⟨rfl, rfl⟩
  go_wp2_with fail
  refine (word_calls w2 _ _ _ (kindT 7) P2.ok (by simp only [List.length_append, List.length_cons, List.length_nil, List.length_nil]; omega)).mono ?_
  rintro _ w3 ⟨rfl, Q3⟩
  have P3 := P2.trans Q3
  have E3 := B2.trans P3.below
  clear Q3 P2
  have c3_0 : w3.cell? ⟨w.heap.size, 0, none⟩ = some (.int .i64 7) := by rw [← he]; exact (b1.wr P3 F).at_ rfl
  have c3_2 := (b1.wr P3 F).at_ (i := 2) (v := .int .i64 e.node) rfl
  go_wp2_with fail
  refine (number_calls w3 _ _ _ e.node h.node (hS.below E3) P3.ok (by simp only [List.length_append, List.length_cons, List.length_nil, List.length_nil]; omega)).mono ?_
  rintro _ w4 ⟨rfl, Q4⟩
  have P4 := P3.trans Q4
  have E4 := B2.trans P4.below
  clear Q4 P3
  have c4_0 : w4.cell? ⟨w.heap.size, 0, none⟩ = some (.int .i64 7) := by rw [← he]; exact (b1.wr P4 F).at_ rfl
  have c4_3 := (b1.wr P4 F).at_ (i := 3) (v := .int .i64 e.who) rfl
  go_wp2_with fail
  refine (number_calls w4 _ _ _ e.who h.who (hS.below E4) P4.ok (by simp only [List.length_append, List.length_cons, List.length_nil, List.length_nil]; omega)).mono ?_
  rintro _ w5 ⟨rfl, Q5⟩
  have P5 := P4.trans Q5
  have E5 := B2.trans P5.below
  clear Q5 P4
  obtain ⟨_, v, bg, own, _⟩ := P5.ok
  have j0 := bg.at_ (i := 0) (v := v) rfl
  have k0 : w5.cell? ⟨w.heap.size, 0, none⟩ = some (.int .i64 7) := by rw [← he]; exact (b1.wr P5 F).at_ rfl
  rw [List.nil_append] at own
  go_wp2_with fail
  refine (wjoin_calls (w0 := w) own hF (by simp)).mono ?_
  rintro _ w6 ⟨rfl, b9⟩
  have b9' := E5.trans (b9.mono E5.size)
  go_wp2_with fail
  go_ret
  exact ⟨by rw [hLT.out]; rfl, b9'⟩
set_option maxHeartbeats 3200000 in
theorem line_8 (e : EvtR) (w : World) (hS : Std w) (h : EvtOK w e) (he : e.kind = 8) (hF : Fits (lineW e.abs)) :
    Calls Tryz.prog 31 #[.agg e.cells.toArray] w fun e' w' => e' = .returned (.string (bstr (lineT e.abs))) ∧ Below w.heap.size w w' := by
  have hL : lineW e.abs = ((((([] ++ [numT e.tick]) ++ [kindT 8]) ++ [numT e.node]) ++ [numT e.who]) ++ ansW e.ans.abs) := by unfold lineW nodeW bodyW; simp [EvtR.abs, he]
  have hLT : Hid (lineT e.abs = spT (((((([] ++ [numT e.tick]) ++ [kindT 8]) ++ [numT e.node]) ++ [numT e.who]) ++ ansW e.ans.abs))) := by show _ = _; unfold lineT; rw [hL]
  rw [hL] at hF
  have hFn := hF.1
  simp only [List.length_append, List.length_cons, List.length_nil] at hFn
  have b1 := Blk.new w 45 e.cells.toArray
  have B1 := below_new w (.cells e.cells.toArray 45)
  have x1 : e.cells[1]? = some (.int .i64 e.tick) := rfl
  have hsz : (w.alloc (.cells e.cells.toArray 45)).heap.size = w.heap.size + 1 := by simp
  have WN := wr_new (w.alloc (.cells e.cells.toArray 45)) w.heap.size (by simp)
  have F := fr_old (w.alloc (.cells e.cells.toArray 45)) w.heap.size (by simp)
  have B2 := B1.trans ((below_new (w.alloc (.cells e.cells.toArray 45)) (.cells #[.slice none 0 0] 129)).mono B1.size)
  rw [hsz] at WN F
  replace b1 := b1.alloc (.cells #[.slice none 0 0] 129)
  go_enter Tryz.func31, Tryz.ntmps31
  go_wp2_with fail
  generalize (w.alloc (.cells e.cells.toArray 45)).alloc (.cells #[.slice none 0 0] 129) = w1 at *
  have P1 := Wrote.refl WN
  have E1 := B2
  clear B1 hsz
  refine (number_calls w1 _ _ _ e.tick h.tick (hS.below E1) P1.ok (by simp only [List.length_append, List.length_nil, List.length_nil]; omega)).mono ?_
  rintro _ w2 ⟨rfl, Q2⟩
  have P2 := P1.trans Q2
  have E2 := B2.trans P2.below
  clear Q2 P1
  have c2_0 : w2.cell? ⟨w.heap.size, 0, none⟩ = some (.int .i64 8) := by rw [← he]; exact (b1.wr P2 F).at_ rfl
  go_wp2_with fail
  refine (name_calls 8 8 rfl (by omega) w2 (hS.below E2)).mono ?_
  rintro _ _ ⟨rfl, rfl⟩
  go_wp2_with fail
  refine (word_calls w2 _ _ _ (kindT 8) P2.ok (by simp only [List.length_append, List.length_cons, List.length_nil, List.length_nil]; omega)).mono ?_
  rintro _ w3 ⟨rfl, Q3⟩
  have P3 := P2.trans Q3
  have E3 := B2.trans P3.below
  clear Q3 P2
  have c3_0 : w3.cell? ⟨w.heap.size, 0, none⟩ = some (.int .i64 8) := by rw [← he]; exact (b1.wr P3 F).at_ rfl
  have c3_2 := (b1.wr P3 F).at_ (i := 2) (v := .int .i64 e.node) rfl
  go_wp2_with fail
  refine (number_calls w3 _ _ _ e.node h.node (hS.below E3) P3.ok (by simp only [List.length_append, List.length_cons, List.length_nil, List.length_nil]; omega)).mono ?_
  rintro _ w4 ⟨rfl, Q4⟩
  have P4 := P3.trans Q4
  have E4 := B2.trans P4.below
  clear Q4 P3
  have c4_0 : w4.cell? ⟨w.heap.size, 0, none⟩ = some (.int .i64 8) := by rw [← he]; exact (b1.wr P4 F).at_ rfl
  have c4_3 := (b1.wr P4 F).at_ (i := 3) (v := .int .i64 e.who) rfl
  go_wp2_with fail
  refine (number_calls w4 _ _ _ e.who h.who (hS.below E4) P4.ok (by simp only [List.length_append, List.length_cons, List.length_nil, List.length_nil]; omega)).mono ?_
  rintro _ w5 ⟨rfl, Q5⟩
  have P5 := P4.trans Q5
  have E5 := B2.trans P5.below
  clear Q5 P4
  have c5_0 : w5.cell? ⟨w.heap.size, 0, none⟩ = some (.int .i64 8) := by rw [← he]; exact (b1.wr P5 F).at_ rfl
  have c5_27 := (b1.wr P5 F).at_ (i := 27) (v := .int .i64 e.ans.status) rfl
  have c5_28 := (b1.wr P5 F).at_ (i := 28) (v := .slice e.ans.fields.A e.ans.fields.l.length e.ans.fields.cap) rfl
  have c5_29 := (b1.wr P5 F).at_ (i := 29) (v := .slice e.ans.parts.A e.ans.parts.l.length e.ans.parts.cap) rfl
  have c5_30 := (b1.wr P5 F).at_ (i := 30) (v := .int .i64 e.ans.size) rfl
  go_wp2_with fail
  refine (wanswer_calls hS w5 E5 _ _ e.ans h.ans P5.ok (hF.sub (by simp; try omega) (fun x hx => by simp [hx])) (by simp only [List.length_append, List.length_cons, List.length_nil, List.length_nil]; omega)).mono ?_
  rintro _ w6 ⟨rfl, Q6⟩
  have P6 := P5.trans Q6
  have E6 := B2.trans P6.below
  clear Q6 P5
  obtain ⟨_, v, bg, own, _⟩ := P6.ok
  have j0 := bg.at_ (i := 0) (v := v) rfl
  rw [List.nil_append] at own
  go_wp2_with fail
  refine (wjoin_calls (w0 := w) own hF (by simp)).mono ?_
  rintro _ w7 ⟨rfl, b9⟩
  have b9' := E6.trans (b9.mono E6.size)
  go_wp2_with fail
  go_ret
  exact ⟨by rw [hLT.out]; rfl, b9'⟩
set_option maxHeartbeats 3200000 in
theorem line_9 (e : EvtR) (w : World) (hS : Std w) (h : EvtOK w e) (he : e.kind = 9) (hF : Fits (lineW e.abs)) :
    Calls Tryz.prog 31 #[.agg e.cells.toArray] w fun e' w' => e' = .returned (.string (bstr (lineT e.abs))) ∧ Below w.heap.size w w' := by
  have hL : lineW e.abs = ((((([] ++ [numT e.tick]) ++ [kindT 9]) ++ [numT e.node]) ++ [numT e.who]) ++ [wordT e.bytes.l]) := by unfold lineW nodeW bodyW; simp [EvtR.abs, he]
  have hLT : Hid (lineT e.abs = spT (((((([] ++ [numT e.tick]) ++ [kindT 9]) ++ [numT e.node]) ++ [numT e.who]) ++ [wordT e.bytes.l]))) := by show _ = _; unfold lineT; rw [hL]
  rw [hL] at hF
  have hFn := hF.1
  simp only [List.length_append, List.length_cons, List.length_nil] at hFn
  have b1 := Blk.new w 45 e.cells.toArray
  have B1 := below_new w (.cells e.cells.toArray 45)
  have x1 : e.cells[1]? = some (.int .i64 e.tick) := rfl
  have hsz : (w.alloc (.cells e.cells.toArray 45)).heap.size = w.heap.size + 1 := by simp
  have WN := wr_new (w.alloc (.cells e.cells.toArray 45)) w.heap.size (by simp)
  have F := fr_old (w.alloc (.cells e.cells.toArray 45)) w.heap.size (by simp)
  have B2 := B1.trans ((below_new (w.alloc (.cells e.cells.toArray 45)) (.cells #[.slice none 0 0] 129)).mono B1.size)
  rw [hsz] at WN F
  replace b1 := b1.alloc (.cells #[.slice none 0 0] 129)
  go_enter Tryz.func31, Tryz.ntmps31
  go_wp2_with fail
  generalize (w.alloc (.cells e.cells.toArray 45)).alloc (.cells #[.slice none 0 0] 129) = w1 at *
  have P1 := Wrote.refl WN
  have E1 := B2
  clear B1 hsz
  refine (number_calls w1 _ _ _ e.tick h.tick (hS.below E1) P1.ok (by simp only [List.length_append, List.length_nil, List.length_nil]; omega)).mono ?_
  rintro _ w2 ⟨rfl, Q2⟩
  have P2 := P1.trans Q2
  have E2 := B2.trans P2.below
  clear Q2 P1
  have c2_0 : w2.cell? ⟨w.heap.size, 0, none⟩ = some (.int .i64 9) := by rw [← he]; exact (b1.wr P2 F).at_ rfl
  go_wp2_with fail
  refine (name_calls 9 9 rfl (by omega) w2 (hS.below E2)).mono ?_
  rintro _ _ ⟨rfl, rfl⟩
  go_wp2_with fail
  refine (word_calls w2 _ _ _ (kindT 9) P2.ok (by simp only [List.length_append, List.length_cons, List.length_nil, List.length_nil]; omega)).mono ?_
  rintro _ w3 ⟨rfl, Q3⟩
  have P3 := P2.trans Q3
  have E3 := B2.trans P3.below
  clear Q3 P2
  have c3_0 : w3.cell? ⟨w.heap.size, 0, none⟩ = some (.int .i64 9) := by rw [← he]; exact (b1.wr P3 F).at_ rfl
  have c3_2 := (b1.wr P3 F).at_ (i := 2) (v := .int .i64 e.node) rfl
  go_wp2_with fail
  refine (number_calls w3 _ _ _ e.node h.node (hS.below E3) P3.ok (by simp only [List.length_append, List.length_cons, List.length_nil, List.length_nil]; omega)).mono ?_
  rintro _ w4 ⟨rfl, Q4⟩
  have P4 := P3.trans Q4
  have E4 := B2.trans P4.below
  clear Q4 P3
  have c4_0 : w4.cell? ⟨w.heap.size, 0, none⟩ = some (.int .i64 9) := by rw [← he]; exact (b1.wr P4 F).at_ rfl
  have c4_3 := (b1.wr P4 F).at_ (i := 3) (v := .int .i64 e.who) rfl
  go_wp2_with fail
  refine (number_calls w4 _ _ _ e.who h.who (hS.below E4) P4.ok (by simp only [List.length_append, List.length_cons, List.length_nil, List.length_nil]; omega)).mono ?_
  rintro _ w5 ⟨rfl, Q5⟩
  have P5 := P4.trans Q5
  have E5 := B2.trans P5.below
  clear Q5 P4
  have c5_0 : w5.cell? ⟨w.heap.size, 0, none⟩ = some (.int .i64 9) := by rw [← he]; exact (b1.wr P5 F).at_ rfl
  have c5_53 := (b1.wr P5 F).at_ (i := 53) (v := .slice e.bytes.A e.bytes.l.length e.bytes.cap) rfl
  have cv5 := run_str (P := Tryz.prog) w5 43 5 9 Tryz.underlying43 Tryz.underlying5 Tryz.underlying9 e.bytes.A e.bytes.l e.bytes.l.length e.bytes.cap (by have := h.bytes.rv.below E5; rw [fl_by] at this; exact this) rfl
  go_wp2_with fail
  refine (text_calls w5 _ _ _ e.bytes.l (hF.mem (by simp)) P5.ok (by simp only [List.length_append, List.length_cons, List.length_nil, List.length_nil]; omega)).mono ?_
  rintro _ w6 ⟨rfl, Q6⟩
  have P6 := P5.trans Q6
  have E6 := B2.trans P6.below
  clear Q6 P5
  obtain ⟨_, v, bg, own, _⟩ := P6.ok
  have j0 := bg.at_ (i := 0) (v := v) rfl
  rw [List.nil_append] at own
  go_wp2_with fail
  refine (wjoin_calls (w0 := w) own hF (by simp)).mono ?_
  rintro _ w7 ⟨rfl, b9⟩
  have b9' := E6.trans (b9.mono E6.size)
  go_wp2_with fail
  go_ret
  exact ⟨by rw [hLT.out]; rfl, b9'⟩
set_option maxHeartbeats 3200000 in
theorem line_10 (e : EvtR) (w : World) (hS : Std w) (h : EvtOK w e) (he : e.kind = 10) (hF : Fits (lineW e.abs)) :
    Calls Tryz.prog 31 #[.agg e.cells.toArray] w fun e' w' => e' = .returned (.string (bstr (lineT e.abs))) ∧ Below w.heap.size w w' := by
  have hL : lineW e.abs = ((((([] ++ [numT e.tick]) ++ [kindT 10]) ++ [numT e.node]) ++ [numT e.who]) ++ [yesT e.whole]) := by unfold lineW nodeW bodyW; simp [EvtR.abs, he]
  have hLT : Hid (lineT e.abs = spT (((((([] ++ [numT e.tick]) ++ [kindT 10]) ++ [numT e.node]) ++ [numT e.who]) ++ [yesT e.whole]))) := by show _ = _; unfold lineT; rw [hL]
  rw [hL] at hF
  have hFn := hF.1
  simp only [List.length_append, List.length_cons, List.length_nil] at hFn
  have b1 := Blk.new w 45 e.cells.toArray
  have B1 := below_new w (.cells e.cells.toArray 45)
  have x1 : e.cells[1]? = some (.int .i64 e.tick) := rfl
  have hsz : (w.alloc (.cells e.cells.toArray 45)).heap.size = w.heap.size + 1 := by simp
  have WN := wr_new (w.alloc (.cells e.cells.toArray 45)) w.heap.size (by simp)
  have F := fr_old (w.alloc (.cells e.cells.toArray 45)) w.heap.size (by simp)
  have B2 := B1.trans ((below_new (w.alloc (.cells e.cells.toArray 45)) (.cells #[.slice none 0 0] 129)).mono B1.size)
  rw [hsz] at WN F
  replace b1 := b1.alloc (.cells #[.slice none 0 0] 129)
  go_enter Tryz.func31, Tryz.ntmps31
  go_wp2_with fail
  generalize (w.alloc (.cells e.cells.toArray 45)).alloc (.cells #[.slice none 0 0] 129) = w1 at *
  have P1 := Wrote.refl WN
  have E1 := B2
  clear B1 hsz
  refine (number_calls w1 _ _ _ e.tick h.tick (hS.below E1) P1.ok (by simp only [List.length_append, List.length_nil, List.length_nil]; omega)).mono ?_
  rintro _ w2 ⟨rfl, Q2⟩
  have P2 := P1.trans Q2
  have E2 := B2.trans P2.below
  clear Q2 P1
  have c2_0 : w2.cell? ⟨w.heap.size, 0, none⟩ = some (.int .i64 10) := by rw [← he]; exact (b1.wr P2 F).at_ rfl
  go_wp2_with fail
  refine (name_calls 10 10 rfl (by omega) w2 (hS.below E2)).mono ?_
  rintro _ _ ⟨rfl, rfl⟩
  go_wp2_with fail
  refine (word_calls w2 _ _ _ (kindT 10) P2.ok (by simp only [List.length_append, List.length_cons, List.length_nil, List.length_nil]; omega)).mono ?_
  rintro _ w3 ⟨rfl, Q3⟩
  have P3 := P2.trans Q3
  have E3 := B2.trans P3.below
  clear Q3 P2
  have c3_0 : w3.cell? ⟨w.heap.size, 0, none⟩ = some (.int .i64 10) := by rw [← he]; exact (b1.wr P3 F).at_ rfl
  have c3_2 := (b1.wr P3 F).at_ (i := 2) (v := .int .i64 e.node) rfl
  go_wp2_with fail
  refine (number_calls w3 _ _ _ e.node h.node (hS.below E3) P3.ok (by simp only [List.length_append, List.length_cons, List.length_nil, List.length_nil]; omega)).mono ?_
  rintro _ w4 ⟨rfl, Q4⟩
  have P4 := P3.trans Q4
  have E4 := B2.trans P4.below
  clear Q4 P3
  have c4_0 : w4.cell? ⟨w.heap.size, 0, none⟩ = some (.int .i64 10) := by rw [← he]; exact (b1.wr P4 F).at_ rfl
  have c4_3 := (b1.wr P4 F).at_ (i := 3) (v := .int .i64 e.who) rfl
  go_wp2_with fail
  refine (number_calls w4 _ _ _ e.who h.who (hS.below E4) P4.ok (by simp only [List.length_append, List.length_cons, List.length_nil, List.length_nil]; omega)).mono ?_
  rintro _ w5 ⟨rfl, Q5⟩
  have P5 := P4.trans Q5
  have E5 := B2.trans P5.below
  clear Q5 P4
  have c5_0 : w5.cell? ⟨w.heap.size, 0, none⟩ = some (.int .i64 10) := by rw [← he]; exact (b1.wr P5 F).at_ rfl
  have c5_56 := (b1.wr P5 F).at_ (i := 56) (v := .bool e.whole) rfl
  go_wp2_with fail
  refine (truth_calls w5 _ _ _ e.whole P5.ok (by simp only [List.length_append, List.length_cons, List.length_nil, List.length_nil]; omega)).mono ?_
  rintro _ w6 ⟨rfl, Q6⟩
  have P6 := P5.trans Q6
  have E6 := B2.trans P6.below
  clear Q6 P5
  obtain ⟨_, v, bg, own, _⟩ := P6.ok
  have j0 := bg.at_ (i := 0) (v := v) rfl
  rw [List.nil_append] at own
  go_wp2_with fail
  refine (wjoin_calls (w0 := w) own hF (by simp)).mono ?_
  rintro _ w7 ⟨rfl, b9⟩
  have b9' := E6.trans (b9.mono E6.size)
  go_wp2_with fail
  go_ret
  exact ⟨by rw [hLT.out]; rfl, b9'⟩
set_option maxHeartbeats 3200000 in
theorem line_11 (e : EvtR) (w : World) (hS : Std w) (h : EvtOK w e) (he : e.kind = 11) (hF : Fits (lineW e.abs)) :
    Calls Tryz.prog 31 #[.agg e.cells.toArray] w fun e' w' => e' = .returned (.string (bstr (lineT e.abs))) ∧ Below w.heap.size w w' := by
  have hL : lineW e.abs = ((((([] ++ [numT e.tick]) ++ [kindT 11]) ++ [numT e.node]) ++ [numT e.who]) ++ fetW e.fet) := by unfold lineW nodeW bodyW; simp [EvtR.abs, he]
  have hLT : Hid (lineT e.abs = spT (((((([] ++ [numT e.tick]) ++ [kindT 11]) ++ [numT e.node]) ++ [numT e.who]) ++ fetW e.fet))) := by show _ = _; unfold lineT; rw [hL]
  rw [hL] at hF
  have hFn := hF.1
  simp only [List.length_append, List.length_cons, List.length_nil] at hFn
  have b1 := Blk.new w 45 e.cells.toArray
  have B1 := below_new w (.cells e.cells.toArray 45)
  have x1 : e.cells[1]? = some (.int .i64 e.tick) := rfl
  have hsz : (w.alloc (.cells e.cells.toArray 45)).heap.size = w.heap.size + 1 := by simp
  have WN := wr_new (w.alloc (.cells e.cells.toArray 45)) w.heap.size (by simp)
  have F := fr_old (w.alloc (.cells e.cells.toArray 45)) w.heap.size (by simp)
  have B2 := B1.trans ((below_new (w.alloc (.cells e.cells.toArray 45)) (.cells #[.slice none 0 0] 129)).mono B1.size)
  rw [hsz] at WN F
  replace b1 := b1.alloc (.cells #[.slice none 0 0] 129)
  go_enter Tryz.func31, Tryz.ntmps31
  go_wp2_with fail
  generalize (w.alloc (.cells e.cells.toArray 45)).alloc (.cells #[.slice none 0 0] 129) = w1 at *
  have P1 := Wrote.refl WN
  have E1 := B2
  clear B1 hsz
  refine (number_calls w1 _ _ _ e.tick h.tick (hS.below E1) P1.ok (by simp only [List.length_append, List.length_nil, List.length_nil]; omega)).mono ?_
  rintro _ w2 ⟨rfl, Q2⟩
  have P2 := P1.trans Q2
  have E2 := B2.trans P2.below
  clear Q2 P1
  have c2_0 : w2.cell? ⟨w.heap.size, 0, none⟩ = some (.int .i64 11) := by rw [← he]; exact (b1.wr P2 F).at_ rfl
  go_wp2_with fail
  refine (name_calls 11 11 rfl (by omega) w2 (hS.below E2)).mono ?_
  rintro _ _ ⟨rfl, rfl⟩
  go_wp2_with fail
  refine (word_calls w2 _ _ _ (kindT 11) P2.ok (by simp only [List.length_append, List.length_cons, List.length_nil, List.length_nil]; omega)).mono ?_
  rintro _ w3 ⟨rfl, Q3⟩
  have P3 := P2.trans Q3
  have E3 := B2.trans P3.below
  clear Q3 P2
  have c3_0 : w3.cell? ⟨w.heap.size, 0, none⟩ = some (.int .i64 11) := by rw [← he]; exact (b1.wr P3 F).at_ rfl
  have c3_2 := (b1.wr P3 F).at_ (i := 2) (v := .int .i64 e.node) rfl
  go_wp2_with fail
  refine (number_calls w3 _ _ _ e.node h.node (hS.below E3) P3.ok (by simp only [List.length_append, List.length_cons, List.length_nil, List.length_nil]; omega)).mono ?_
  rintro _ w4 ⟨rfl, Q4⟩
  have P4 := P3.trans Q4
  have E4 := B2.trans P4.below
  clear Q4 P3
  have c4_0 : w4.cell? ⟨w.heap.size, 0, none⟩ = some (.int .i64 11) := by rw [← he]; exact (b1.wr P4 F).at_ rfl
  have c4_3 := (b1.wr P4 F).at_ (i := 3) (v := .int .i64 e.who) rfl
  go_wp2_with fail
  refine (number_calls w4 _ _ _ e.who h.who (hS.below E4) P4.ok (by simp only [List.length_append, List.length_cons, List.length_nil, List.length_nil]; omega)).mono ?_
  rintro _ w5 ⟨rfl, Q5⟩
  have P5 := P4.trans Q5
  have E5 := B2.trans P5.below
  clear Q5 P4
  have c5_0 : w5.cell? ⟨w.heap.size, 0, none⟩ = some (.int .i64 11) := by rw [← he]; exact (b1.wr P5 F).at_ rfl
  have c5_31 := (b1.wr P5 F).at_ (i := 31) (v := .string (bstr e.fet.object)) rfl
  have c5_32 := (b1.wr P5 F).at_ (i := 32) (v := .int .i64 e.fet.span.frm) rfl
  have c5_33 := (b1.wr P5 F).at_ (i := 33) (v := .int .i64 e.fet.span.to) rfl
  have c5_34 := (b1.wr P5 F).at_ (i := 34) (v := .string (bstr e.fet.mtch.text)) rfl
  have c5_35 := (b1.wr P5 F).at_ (i := 35) (v := .bool e.fet.mtch.weak) rfl
  have c5_36 := (b1.wr P5 F).at_ (i := 36) (v := .string (bstr e.fet.non.text)) rfl
  have c5_37 := (b1.wr P5 F).at_ (i := 37) (v := .bool e.fet.non.weak) rfl
  go_wp2_with fail
  refine (wfetch_calls hS w5 E5 _ _ e.fet h.fet P5.ok (hF.sub (by simp; try omega) (fun x hx => by simp [hx])) (by simp only [List.length_append, List.length_cons, List.length_nil, List.length_nil]; omega)).mono ?_
  rintro _ w6 ⟨rfl, Q6⟩
  have P6 := P5.trans Q6
  have E6 := B2.trans P6.below
  clear Q6 P5
  obtain ⟨_, v, bg, own, _⟩ := P6.ok
  have j0 := bg.at_ (i := 0) (v := v) rfl
  rw [List.nil_append] at own
  go_wp2_with fail
  refine (wjoin_calls (w0 := w) own hF (by simp)).mono ?_
  rintro _ w7 ⟨rfl, b9⟩
  have b9' := E6.trans (b9.mono E6.size)
  go_wp2_with fail
  go_ret
  exact ⟨by rw [hLT.out]; rfl, b9'⟩
set_option maxHeartbeats 3200000 in
theorem line_12 (e : EvtR) (w : World) (hS : Std w) (h : EvtOK w e) (he : e.kind = 12) (hF : Fits (lineW e.abs)) :
    Calls Tryz.prog 31 #[.agg e.cells.toArray] w fun e' w' => e' = .returned (.string (bstr (lineT e.abs))) ∧ Below w.heap.size w w' := by
  have hL : lineW e.abs = ((((([] ++ [numT e.tick]) ++ [kindT 12]) ++ [numT e.node]) ++ [numT e.who]) ++ repW e.rep.abs) := by unfold lineW nodeW bodyW; simp [EvtR.abs, he]
  have hLT : Hid (lineT e.abs = spT (((((([] ++ [numT e.tick]) ++ [kindT 12]) ++ [numT e.node]) ++ [numT e.who]) ++ repW e.rep.abs))) := by show _ = _; unfold lineT; rw [hL]
  rw [hL] at hF
  have hFn := hF.1
  simp only [List.length_append, List.length_cons, List.length_nil] at hFn
  have b1 := Blk.new w 45 e.cells.toArray
  have B1 := below_new w (.cells e.cells.toArray 45)
  have x1 : e.cells[1]? = some (.int .i64 e.tick) := rfl
  have hsz : (w.alloc (.cells e.cells.toArray 45)).heap.size = w.heap.size + 1 := by simp
  have WN := wr_new (w.alloc (.cells e.cells.toArray 45)) w.heap.size (by simp)
  have F := fr_old (w.alloc (.cells e.cells.toArray 45)) w.heap.size (by simp)
  have B2 := B1.trans ((below_new (w.alloc (.cells e.cells.toArray 45)) (.cells #[.slice none 0 0] 129)).mono B1.size)
  rw [hsz] at WN F
  replace b1 := b1.alloc (.cells #[.slice none 0 0] 129)
  go_enter Tryz.func31, Tryz.ntmps31
  go_wp2_with fail
  generalize (w.alloc (.cells e.cells.toArray 45)).alloc (.cells #[.slice none 0 0] 129) = w1 at *
  have P1 := Wrote.refl WN
  have E1 := B2
  clear B1 hsz
  refine (number_calls w1 _ _ _ e.tick h.tick (hS.below E1) P1.ok (by simp only [List.length_append, List.length_nil, List.length_nil]; omega)).mono ?_
  rintro _ w2 ⟨rfl, Q2⟩
  have P2 := P1.trans Q2
  have E2 := B2.trans P2.below
  clear Q2 P1
  have c2_0 : w2.cell? ⟨w.heap.size, 0, none⟩ = some (.int .i64 12) := by rw [← he]; exact (b1.wr P2 F).at_ rfl
  go_wp2_with fail
  refine (name_calls 12 12 rfl (by omega) w2 (hS.below E2)).mono ?_
  rintro _ _ ⟨rfl, rfl⟩
  go_wp2_with fail
  refine (word_calls w2 _ _ _ (kindT 12) P2.ok (by simp only [List.length_append, List.length_cons, List.length_nil, List.length_nil]; omega)).mono ?_
  rintro _ w3 ⟨rfl, Q3⟩
  have P3 := P2.trans Q3
  have E3 := B2.trans P3.below
  clear Q3 P2
  have c3_0 : w3.cell? ⟨w.heap.size, 0, none⟩ = some (.int .i64 12) := by rw [← he]; exact (b1.wr P3 F).at_ rfl
  have c3_2 := (b1.wr P3 F).at_ (i := 2) (v := .int .i64 e.node) rfl
  go_wp2_with fail
  refine (number_calls w3 _ _ _ e.node h.node (hS.below E3) P3.ok (by simp only [List.length_append, List.length_cons, List.length_nil, List.length_nil]; omega)).mono ?_
  rintro _ w4 ⟨rfl, Q4⟩
  have P4 := P3.trans Q4
  have E4 := B2.trans P4.below
  clear Q4 P3
  have c4_0 : w4.cell? ⟨w.heap.size, 0, none⟩ = some (.int .i64 12) := by rw [← he]; exact (b1.wr P4 F).at_ rfl
  have c4_3 := (b1.wr P4 F).at_ (i := 3) (v := .int .i64 e.who) rfl
  go_wp2_with fail
  refine (number_calls w4 _ _ _ e.who h.who (hS.below E4) P4.ok (by simp only [List.length_append, List.length_cons, List.length_nil, List.length_nil]; omega)).mono ?_
  rintro _ w5 ⟨rfl, Q5⟩
  have P5 := P4.trans Q5
  have E5 := B2.trans P5.below
  clear Q5 P4
  have c5_0 : w5.cell? ⟨w.heap.size, 0, none⟩ = some (.int .i64 12) := by rw [← he]; exact (b1.wr P5 F).at_ rfl
  have c5_38 := (b1.wr P5 F).at_ (i := 38) (v := .int .i64 e.rep.status) rfl
  have c5_39 := (b1.wr P5 F).at_ (i := 39) (v := .string (bstr e.rep.met.tag.text)) rfl
  have c5_40 := (b1.wr P5 F).at_ (i := 40) (v := .bool e.rep.met.tag.weak) rfl
  have c5_41 := (b1.wr P5 F).at_ (i := 41) (v := .int .i64 e.rep.met.modi) rfl
  have c5_42 := (b1.wr P5 F).at_ (i := 42) (v := .int .i64 e.rep.met.len) rfl
  have c5_43 := (b1.wr P5 F).at_ (i := 43) (v := .int .i64 e.rep.met.have_) rfl
  have c5_44 := (b1.wr P5 F).at_ (i := 44) (v := .int .i64 e.rep.met.fresh) rfl
  have c5_45 := (b1.wr P5 F).at_ (i := 45) (v := .int .i64 e.rep.met.while_) rfl
  have c5_46 := (b1.wr P5 F).at_ (i := 46) (v := .int .i64 e.rep.met.error) rfl
  have c5_47 := (b1.wr P5 F).at_ (i := 47) (v := .slice e.rep.met.keys.A e.rep.met.keys.l.length e.rep.met.keys.cap) rfl
  have c5_48 := (b1.wr P5 F).at_ (i := 48) (v := .string (bstr e.rep.met.tenant)) rfl
  have c5_49 := (b1.wr P5 F).at_ (i := 49) (v := .bool e.rep.met.keep) rfl
  have c5_50 := (b1.wr P5 F).at_ (i := 50) (v := .int .i64 e.rep.span.frm) rfl
  have c5_51 := (b1.wr P5 F).at_ (i := 51) (v := .int .i64 e.rep.span.to) rfl
  have c5_52 := (b1.wr P5 F).at_ (i := 52) (v := .int .i64 e.rep.age) rfl
  go_wp2_with fail
  refine (wreply_calls hS w5 E5 _ _ e.rep h.rep P5.ok (hF.sub (by simp; try omega) (fun x hx => by simp [hx])) (by simp only [List.length_append, List.length_cons, List.length_nil, List.length_nil]; omega)).mono ?_
  rintro _ w6 ⟨rfl, Q6⟩
  have P6 := P5.trans Q6
  have E6 := B2.trans P6.below
  clear Q6 P5
  obtain ⟨_, v, bg, own, _⟩ := P6.ok
  have j0 := bg.at_ (i := 0) (v := v) rfl
  rw [List.nil_append] at own
  go_wp2_with fail
  refine (wjoin_calls (w0 := w) own hF (by simp)).mono ?_
  rintro _ w7 ⟨rfl, b9⟩
  have b9' := E6.trans (b9.mono E6.size)
  go_wp2_with fail
  go_ret
  exact ⟨by rw [hLT.out]; rfl, b9'⟩
set_option maxHeartbeats 3200000 in
theorem line_13 (e : EvtR) (w : World) (hS : Std w) (h : EvtOK w e) (he : e.kind = 13) (hF : Fits (lineW e.abs)) :
    Calls Tryz.prog 31 #[.agg e.cells.toArray] w fun e' w' => e' = .returned (.string (bstr (lineT e.abs))) ∧ Below w.heap.size w w' := by
  have hL : lineW e.abs = ((((([] ++ [numT e.tick]) ++ [kindT 13]) ++ [numT e.node]) ++ [numT e.who]) ++ [wordT e.bytes.l]) := by unfold lineW nodeW bodyW; simp [EvtR.abs, he]
  have hLT : Hid (lineT e.abs = spT (((((([] ++ [numT e.tick]) ++ [kindT 13]) ++ [numT e.node]) ++ [numT e.who]) ++ [wordT e.bytes.l]))) := by show _ = _; unfold lineT; rw [hL]
  rw [hL] at hF
  have hFn := hF.1
  simp only [List.length_append, List.length_cons, List.length_nil] at hFn
  have b1 := Blk.new w 45 e.cells.toArray
  have B1 := below_new w (.cells e.cells.toArray 45)
  have x1 : e.cells[1]? = some (.int .i64 e.tick) := rfl
  have hsz : (w.alloc (.cells e.cells.toArray 45)).heap.size = w.heap.size + 1 := by simp
  have WN := wr_new (w.alloc (.cells e.cells.toArray 45)) w.heap.size (by simp)
  have F := fr_old (w.alloc (.cells e.cells.toArray 45)) w.heap.size (by simp)
  have B2 := B1.trans ((below_new (w.alloc (.cells e.cells.toArray 45)) (.cells #[.slice none 0 0] 129)).mono B1.size)
  rw [hsz] at WN F
  replace b1 := b1.alloc (.cells #[.slice none 0 0] 129)
  go_enter Tryz.func31, Tryz.ntmps31
  go_wp2_with fail
  generalize (w.alloc (.cells e.cells.toArray 45)).alloc (.cells #[.slice none 0 0] 129) = w1 at *
  have P1 := Wrote.refl WN
  have E1 := B2
  clear B1 hsz
  refine (number_calls w1 _ _ _ e.tick h.tick (hS.below E1) P1.ok (by simp only [List.length_append, List.length_nil, List.length_nil]; omega)).mono ?_
  rintro _ w2 ⟨rfl, Q2⟩
  have P2 := P1.trans Q2
  have E2 := B2.trans P2.below
  clear Q2 P1
  have c2_0 : w2.cell? ⟨w.heap.size, 0, none⟩ = some (.int .i64 13) := by rw [← he]; exact (b1.wr P2 F).at_ rfl
  go_wp2_with fail
  refine (name_calls 13 13 rfl (by omega) w2 (hS.below E2)).mono ?_
  rintro _ _ ⟨rfl, rfl⟩
  go_wp2_with fail
  refine (word_calls w2 _ _ _ (kindT 13) P2.ok (by simp only [List.length_append, List.length_cons, List.length_nil, List.length_nil]; omega)).mono ?_
  rintro _ w3 ⟨rfl, Q3⟩
  have P3 := P2.trans Q3
  have E3 := B2.trans P3.below
  clear Q3 P2
  have c3_0 : w3.cell? ⟨w.heap.size, 0, none⟩ = some (.int .i64 13) := by rw [← he]; exact (b1.wr P3 F).at_ rfl
  have c3_2 := (b1.wr P3 F).at_ (i := 2) (v := .int .i64 e.node) rfl
  go_wp2_with fail
  refine (number_calls w3 _ _ _ e.node h.node (hS.below E3) P3.ok (by simp only [List.length_append, List.length_cons, List.length_nil, List.length_nil]; omega)).mono ?_
  rintro _ w4 ⟨rfl, Q4⟩
  have P4 := P3.trans Q4
  have E4 := B2.trans P4.below
  clear Q4 P3
  have c4_0 : w4.cell? ⟨w.heap.size, 0, none⟩ = some (.int .i64 13) := by rw [← he]; exact (b1.wr P4 F).at_ rfl
  have c4_3 := (b1.wr P4 F).at_ (i := 3) (v := .int .i64 e.who) rfl
  go_wp2_with fail
  refine (number_calls w4 _ _ _ e.who h.who (hS.below E4) P4.ok (by simp only [List.length_append, List.length_cons, List.length_nil, List.length_nil]; omega)).mono ?_
  rintro _ w5 ⟨rfl, Q5⟩
  have P5 := P4.trans Q5
  have E5 := B2.trans P5.below
  clear Q5 P4
  have c5_0 : w5.cell? ⟨w.heap.size, 0, none⟩ = some (.int .i64 13) := by rw [← he]; exact (b1.wr P5 F).at_ rfl
  have c5_53 := (b1.wr P5 F).at_ (i := 53) (v := .slice e.bytes.A e.bytes.l.length e.bytes.cap) rfl
  have cv5 := run_str (P := Tryz.prog) w5 43 5 9 Tryz.underlying43 Tryz.underlying5 Tryz.underlying9 e.bytes.A e.bytes.l e.bytes.l.length e.bytes.cap (by have := h.bytes.rv.below E5; rw [fl_by] at this; exact this) rfl
  go_wp2_with fail
  refine (text_calls w5 _ _ _ e.bytes.l (hF.mem (by simp)) P5.ok (by simp only [List.length_append, List.length_cons, List.length_nil, List.length_nil]; omega)).mono ?_
  rintro _ w6 ⟨rfl, Q6⟩
  have P6 := P5.trans Q6
  have E6 := B2.trans P6.below
  clear Q6 P5
  obtain ⟨_, v, bg, own, _⟩ := P6.ok
  have j0 := bg.at_ (i := 0) (v := v) rfl
  rw [List.nil_append] at own
  go_wp2_with fail
  refine (wjoin_calls (w0 := w) own hF (by simp)).mono ?_
  rintro _ w7 ⟨rfl, b9⟩
  have b9' := E6.trans (b9.mono E6.size)
  go_wp2_with fail
  go_ret
  exact ⟨by rw [hLT.out]; rfl, b9'⟩
set_option maxHeartbeats 3200000 in
theorem line_14 (e : EvtR) (w : World) (hS : Std w) (h : EvtOK w e) (he : e.kind = 14) (hF : Fits (lineW e.abs)) :
    Calls Tryz.prog 31 #[.agg e.cells.toArray] w fun e' w' => e' = .returned (.string (bstr (lineT e.abs))) ∧ Below w.heap.size w w' := by
  have hL : lineW e.abs = ((((([] ++ [numT e.tick]) ++ [kindT 14]) ++ [numT e.node]) ++ [numT e.who]) ++ [yesT e.whole]) := by unfold lineW nodeW bodyW; simp [EvtR.abs, he]
  have hLT : Hid (lineT e.abs = spT (((((([] ++ [numT e.tick]) ++ [kindT 14]) ++ [numT e.node]) ++ [numT e.who]) ++ [yesT e.whole]))) := by show _ = _; unfold lineT; rw [hL]
  rw [hL] at hF
  have hFn := hF.1
  simp only [List.length_append, List.length_cons, List.length_nil] at hFn
  have b1 := Blk.new w 45 e.cells.toArray
  have B1 := below_new w (.cells e.cells.toArray 45)
  have x1 : e.cells[1]? = some (.int .i64 e.tick) := rfl
  have hsz : (w.alloc (.cells e.cells.toArray 45)).heap.size = w.heap.size + 1 := by simp
  have WN := wr_new (w.alloc (.cells e.cells.toArray 45)) w.heap.size (by simp)
  have F := fr_old (w.alloc (.cells e.cells.toArray 45)) w.heap.size (by simp)
  have B2 := B1.trans ((below_new (w.alloc (.cells e.cells.toArray 45)) (.cells #[.slice none 0 0] 129)).mono B1.size)
  rw [hsz] at WN F
  replace b1 := b1.alloc (.cells #[.slice none 0 0] 129)
  go_enter Tryz.func31, Tryz.ntmps31
  go_wp2_with fail
  generalize (w.alloc (.cells e.cells.toArray 45)).alloc (.cells #[.slice none 0 0] 129) = w1 at *
  have P1 := Wrote.refl WN
  have E1 := B2
  clear B1 hsz
  refine (number_calls w1 _ _ _ e.tick h.tick (hS.below E1) P1.ok (by simp only [List.length_append, List.length_nil, List.length_nil]; omega)).mono ?_
  rintro _ w2 ⟨rfl, Q2⟩
  have P2 := P1.trans Q2
  have E2 := B2.trans P2.below
  clear Q2 P1
  have c2_0 : w2.cell? ⟨w.heap.size, 0, none⟩ = some (.int .i64 14) := by rw [← he]; exact (b1.wr P2 F).at_ rfl
  go_wp2_with fail
  refine (name_calls 14 14 rfl (by omega) w2 (hS.below E2)).mono ?_
  rintro _ _ ⟨rfl, rfl⟩
  go_wp2_with fail
  refine (word_calls w2 _ _ _ (kindT 14) P2.ok (by simp only [List.length_append, List.length_cons, List.length_nil, List.length_nil]; omega)).mono ?_
  rintro _ w3 ⟨rfl, Q3⟩
  have P3 := P2.trans Q3
  have E3 := B2.trans P3.below
  clear Q3 P2
  have c3_0 : w3.cell? ⟨w.heap.size, 0, none⟩ = some (.int .i64 14) := by rw [← he]; exact (b1.wr P3 F).at_ rfl
  have c3_2 := (b1.wr P3 F).at_ (i := 2) (v := .int .i64 e.node) rfl
  go_wp2_with fail
  refine (number_calls w3 _ _ _ e.node h.node (hS.below E3) P3.ok (by simp only [List.length_append, List.length_cons, List.length_nil, List.length_nil]; omega)).mono ?_
  rintro _ w4 ⟨rfl, Q4⟩
  have P4 := P3.trans Q4
  have E4 := B2.trans P4.below
  clear Q4 P3
  have c4_0 : w4.cell? ⟨w.heap.size, 0, none⟩ = some (.int .i64 14) := by rw [← he]; exact (b1.wr P4 F).at_ rfl
  have c4_3 := (b1.wr P4 F).at_ (i := 3) (v := .int .i64 e.who) rfl
  go_wp2_with fail
  refine (number_calls w4 _ _ _ e.who h.who (hS.below E4) P4.ok (by simp only [List.length_append, List.length_cons, List.length_nil, List.length_nil]; omega)).mono ?_
  rintro _ w5 ⟨rfl, Q5⟩
  have P5 := P4.trans Q5
  have E5 := B2.trans P5.below
  clear Q5 P4
  have c5_0 : w5.cell? ⟨w.heap.size, 0, none⟩ = some (.int .i64 14) := by rw [← he]; exact (b1.wr P5 F).at_ rfl
  have c5_56 := (b1.wr P5 F).at_ (i := 56) (v := .bool e.whole) rfl
  go_wp2_with fail
  refine (truth_calls w5 _ _ _ e.whole P5.ok (by simp only [List.length_append, List.length_cons, List.length_nil, List.length_nil]; omega)).mono ?_
  rintro _ w6 ⟨rfl, Q6⟩
  have P6 := P5.trans Q6
  have E6 := B2.trans P6.below
  clear Q6 P5
  obtain ⟨_, v, bg, own, _⟩ := P6.ok
  have j0 := bg.at_ (i := 0) (v := v) rfl
  rw [List.nil_append] at own
  go_wp2_with fail
  refine (wjoin_calls (w0 := w) own hF (by simp)).mono ?_
  rintro _ w7 ⟨rfl, b9⟩
  have b9' := E6.trans (b9.mono E6.size)
  go_wp2_with fail
  go_ret
  exact ⟨by rw [hLT.out]; rfl, b9'⟩
set_option maxHeartbeats 3200000 in
theorem line_15 (e : EvtR) (w : World) (hS : Std w) (h : EvtOK w e) (he : e.kind = 15) (hF : Fits (lineW e.abs)) :
    Calls Tryz.prog 31 #[.agg e.cells.toArray] w fun e' w' => e' = .returned (.string (bstr (lineT e.abs))) ∧ Below w.heap.size w w' := by
  have hL : lineW e.abs = (((([] ++ [numT e.tick]) ++ [kindT 15]) ++ [numT e.node]) ++ [numT e.who]) := by unfold lineW nodeW bodyW; simp [EvtR.abs, he]
  have hLT : Hid (lineT e.abs = spT ((((([] ++ [numT e.tick]) ++ [kindT 15]) ++ [numT e.node]) ++ [numT e.who]))) := by show _ = _; unfold lineT; rw [hL]
  rw [hL] at hF
  have hFn := hF.1
  simp only [List.length_append, List.length_cons, List.length_nil] at hFn
  have b1 := Blk.new w 45 e.cells.toArray
  have B1 := below_new w (.cells e.cells.toArray 45)
  have x1 : e.cells[1]? = some (.int .i64 e.tick) := rfl
  have hsz : (w.alloc (.cells e.cells.toArray 45)).heap.size = w.heap.size + 1 := by simp
  have WN := wr_new (w.alloc (.cells e.cells.toArray 45)) w.heap.size (by simp)
  have F := fr_old (w.alloc (.cells e.cells.toArray 45)) w.heap.size (by simp)
  have B2 := B1.trans ((below_new (w.alloc (.cells e.cells.toArray 45)) (.cells #[.slice none 0 0] 129)).mono B1.size)
  rw [hsz] at WN F
  replace b1 := b1.alloc (.cells #[.slice none 0 0] 129)
  go_enter Tryz.func31, Tryz.ntmps31
  go_wp2_with fail
  generalize (w.alloc (.cells e.cells.toArray 45)).alloc (.cells #[.slice none 0 0] 129) = w1 at *
  have P1 := Wrote.refl WN
  have E1 := B2
  clear B1 hsz
  refine (number_calls w1 _ _ _ e.tick h.tick (hS.below E1) P1.ok (by simp only [List.length_append, List.length_nil, List.length_nil]; omega)).mono ?_
  rintro _ w2 ⟨rfl, Q2⟩
  have P2 := P1.trans Q2
  have E2 := B2.trans P2.below
  clear Q2 P1
  have c2_0 : w2.cell? ⟨w.heap.size, 0, none⟩ = some (.int .i64 15) := by rw [← he]; exact (b1.wr P2 F).at_ rfl
  go_wp2_with fail
  refine (name_calls 15 15 rfl (by omega) w2 (hS.below E2)).mono ?_
  rintro _ _ ⟨rfl, rfl⟩
  go_wp2_with fail
  refine (word_calls w2 _ _ _ (kindT 15) P2.ok (by simp only [List.length_append, List.length_cons, List.length_nil, List.length_nil]; omega)).mono ?_
  rintro _ w3 ⟨rfl, Q3⟩
  have P3 := P2.trans Q3
  have E3 := B2.trans P3.below
  clear Q3 P2
  have c3_0 : w3.cell? ⟨w.heap.size, 0, none⟩ = some (.int .i64 15) := by rw [← he]; exact (b1.wr P3 F).at_ rfl
  have c3_2 := (b1.wr P3 F).at_ (i := 2) (v := .int .i64 e.node) rfl
  go_wp2_with fail
  refine (number_calls w3 _ _ _ e.node h.node (hS.below E3) P3.ok (by simp only [List.length_append, List.length_cons, List.length_nil, List.length_nil]; omega)).mono ?_
  rintro _ w4 ⟨rfl, Q4⟩
  have P4 := P3.trans Q4
  have E4 := B2.trans P4.below
  clear Q4 P3
  have c4_0 : w4.cell? ⟨w.heap.size, 0, none⟩ = some (.int .i64 15) := by rw [← he]; exact (b1.wr P4 F).at_ rfl
  have c4_3 := (b1.wr P4 F).at_ (i := 3) (v := .int .i64 e.who) rfl
  go_wp2_with fail
  refine (number_calls w4 _ _ _ e.who h.who (hS.below E4) P4.ok (by simp only [List.length_append, List.length_cons, List.length_nil, List.length_nil]; omega)).mono ?_
  rintro _ w5 ⟨rfl, Q5⟩
  have P5 := P4.trans Q5
  have E5 := B2.trans P5.below
  clear Q5 P4
  obtain ⟨_, v, bg, own, _⟩ := P5.ok
  have j0 := bg.at_ (i := 0) (v := v) rfl
  have k0 : w5.cell? ⟨w.heap.size, 0, none⟩ = some (.int .i64 15) := by rw [← he]; exact (b1.wr P5 F).at_ rfl
  rw [List.nil_append] at own
  go_wp2_with fail
  refine (wjoin_calls (w0 := w) own hF (by simp)).mono ?_
  rintro _ w6 ⟨rfl, b9⟩
  have b9' := E5.trans (b9.mono E5.size)
  go_wp2_with fail
  go_ret
  exact ⟨by rw [hLT.out]; rfl, b9'⟩
set_option maxHeartbeats 3200000 in
theorem line_16 (e : EvtR) (w : World) (hS : Std w) (h : EvtOK w e) (he : e.kind = 16) (hF : Fits (lineW e.abs)) :
    Calls Tryz.prog 31 #[.agg e.cells.toArray] w fun e' w' => e' = .returned (.string (bstr (lineT e.abs))) ∧ Below w.heap.size w w' := by
  have hL : lineW e.abs = ((([] ++ [numT e.tick]) ++ [kindT 16]) ++ [numT e.node]) := by unfold lineW nodeW bodyW; simp [EvtR.abs, he]
  have hLT : Hid (lineT e.abs = spT (((([] ++ [numT e.tick]) ++ [kindT 16]) ++ [numT e.node]))) := by show _ = _; unfold lineT; rw [hL]
  rw [hL] at hF
  have hFn := hF.1
  simp only [List.length_append, List.length_cons, List.length_nil] at hFn
  have b1 := Blk.new w 45 e.cells.toArray
  have B1 := below_new w (.cells e.cells.toArray 45)
  have x1 : e.cells[1]? = some (.int .i64 e.tick) := rfl
  have hsz : (w.alloc (.cells e.cells.toArray 45)).heap.size = w.heap.size + 1 := by simp
  have WN := wr_new (w.alloc (.cells e.cells.toArray 45)) w.heap.size (by simp)
  have F := fr_old (w.alloc (.cells e.cells.toArray 45)) w.heap.size (by simp)
  have B2 := B1.trans ((below_new (w.alloc (.cells e.cells.toArray 45)) (.cells #[.slice none 0 0] 129)).mono B1.size)
  rw [hsz] at WN F
  replace b1 := b1.alloc (.cells #[.slice none 0 0] 129)
  go_enter Tryz.func31, Tryz.ntmps31
  go_wp2_with fail
  generalize (w.alloc (.cells e.cells.toArray 45)).alloc (.cells #[.slice none 0 0] 129) = w1 at *
  have P1 := Wrote.refl WN
  have E1 := B2
  clear B1 hsz
  refine (number_calls w1 _ _ _ e.tick h.tick (hS.below E1) P1.ok (by simp only [List.length_append, List.length_nil, List.length_nil]; omega)).mono ?_
  rintro _ w2 ⟨rfl, Q2⟩
  have P2 := P1.trans Q2
  have E2 := B2.trans P2.below
  clear Q2 P1
  have c2_0 : w2.cell? ⟨w.heap.size, 0, none⟩ = some (.int .i64 16) := by rw [← he]; exact (b1.wr P2 F).at_ rfl
  go_wp2_with fail
  refine (name_calls 16 16 rfl (by omega) w2 (hS.below E2)).mono ?_
  rintro _ _ ⟨rfl, rfl⟩
  go_wp2_with fail
  refine (word_calls w2 _ _ _ (kindT 16) P2.ok (by simp only [List.length_append, List.length_cons, List.length_nil, List.length_nil]; omega)).mono ?_
  rintro _ w3 ⟨rfl, Q3⟩
  have P3 := P2.trans Q3
  have E3 := B2.trans P3.below
  clear Q3 P2
  have c3_0 : w3.cell? ⟨w.heap.size, 0, none⟩ = some (.int .i64 16) := by rw [← he]; exact (b1.wr P3 F).at_ rfl
  have c3_2 := (b1.wr P3 F).at_ (i := 2) (v := .int .i64 e.node) rfl
  go_wp2_with fail
  refine (number_calls w3 _ _ _ e.node h.node (hS.below E3) P3.ok (by simp only [List.length_append, List.length_cons, List.length_nil, List.length_nil]; omega)).mono ?_
  rintro _ w4 ⟨rfl, Q4⟩
  have P4 := P3.trans Q4
  have E4 := B2.trans P4.below
  clear Q4 P3
  obtain ⟨_, v, bg, own, _⟩ := P4.ok
  have j0 := bg.at_ (i := 0) (v := v) rfl
  have k0 : w4.cell? ⟨w.heap.size, 0, none⟩ = some (.int .i64 16) := by rw [← he]; exact (b1.wr P4 F).at_ rfl
  rw [List.nil_append] at own
  go_wp2_with fail
  refine (wjoin_calls (w0 := w) own hF (by simp)).mono ?_
  rintro _ w5 ⟨rfl, b9⟩
  have b9' := E4.trans (b9.mono E4.size)
  go_wp2_with fail
  go_ret
  exact ⟨by rw [hLT.out]; rfl, b9'⟩
end Go.Proofs.YtiokbebodblhaaaGreatDoor
