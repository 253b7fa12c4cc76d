/-
  Walks of the writer's methods: what is fetched, a Meta, a reply, an answer, a request. Printed by wrgen.py.
-/
import Derived.Test.YtiokbebodblhaaaGreatDoorTWri
namespace Go.Proofs.YtiokbebodblhaaaGreatDoor
open Go.RowKit TraceP

theorem tagsW_len (l : List Tag) : (tagsW l).length = l.length + 1 := by simp [tagsW]
theorem textsW_len (l : List Txt) : (textsW l).length = l.length + 1 := by simp [textsW]
theorem flat_len {α β : Type} (f : α → List β) (n : Nat) (h : ∀ a, (f a).length = n) (l : List α) : (l.flatMap f).length = l.length * n := by
  induction l with
  | nil => simp
  | cons a l ih => rw [List.flatMap_cons, List.length_append, h, ih, List.length_cons, Nat.succ_mul, Nat.add_comm]
theorem spnsW_len (l : List Spn) : (spnsW l).length = l.length * 2 + 1 := by unfold spnsW; rw [List.length_cons, flat_len spnW 2 (fun _ => rfl)]
theorem fldsW_len (l : List Fld) : (fldsW l).length = l.length * 2 + 1 := by unfold fldsW; rw [List.length_cons, flat_len fldW 2 (fun _ => rfl)]
theorem prtsW_len (l : List Prt) : (prtsW l).length = l.length * 3 + 1 := by unfold prtsW; rw [List.length_cons, flat_len prtW 3 (fun _ => rfl)]
theorem spn_take_len (l : List Spn) (k : Nat) (h : k ≤ l.length) : ((l.take k).flatMap spnW).length = k * 2 := by rw [flat_len spnW 2 (fun _ => rfl), List.length_take, Nat.min_eq_left h]
theorem fld_take_len (l : List Fld) (k : Nat) (h : k ≤ l.length) : ((l.take k).flatMap fldW).length = k * 2 := by rw [flat_len fldW 2 (fun _ => rfl), List.length_take, Nat.min_eq_left h]
theorem prt_take_len (l : List Prt) (k : Nat) (h : k ≤ l.length) : ((l.take k).flatMap prtW).length = k * 3 := by rw [flat_len prtW 3 (fun _ => rfl), List.length_take, Nat.min_eq_left h]
theorem spn_len (s : Spn) : (spnW s).length = 2 := rfl
theorem Fits.sub {V W : List Txt} (h : Fits W) (hl : V.length ≤ W.length) (hm : ∀ x ∈ V, x ∈ W) : Fits V := ⟨Nat.le_trans hl h.1, fun x hx => h.2 x (hm x hx)⟩
theorem Wrote.refl {base g : Nat} {ws : List Txt} {w : World} (h : WrOK w base g ws) : Wrote base g ws [] w w := Wrote.below_ h (Below.refl _ _)
set_option maxHeartbeats 1600000 in
theorem wfetch_calls {w0 : World} (hS : Std w0) (w : World) (B : Below w0.heap.size w0 w) (g : Nat) (ws : List Txt) (f : Fet) (hi : SpnI f.span) (H : WrOK w w0.heap.size g ws) (hF : Fits (fetW f)) (hn : ws.length + (fetW f).length ≤ 10000000) :
    Calls Tryz.prog 71 #[.pointer (some ⟨g, 0, none⟩), .agg #[.string (bstr f.object), .int .i64 f.span.frm, .int .i64 f.span.to, .string (bstr f.mtch.text), .bool f.mtch.weak, .string (bstr f.non.text), .bool f.non.weak]] w fun e w' => e = .returned (.tuple #[]) ∧ Wrote w0.heap.size g ws (fetW f) w w' := by
  have hlen : (fetW f).length = 5 := by simp [fetW, spnW]; try omega
  rw [hlen] at hn
  have F := FrW.new H (.cells #[.string (bstr f.object), .int .i64 f.span.frm, .int .i64 f.span.to, .string (bstr f.mtch.text), .bool f.mtch.weak, .string (bstr f.non.text), .bool f.non.weak] 40)
  have b1 := Blk.new w 40 #[.string (bstr f.object), .int .i64 f.span.frm, .int .i64 f.span.to, .string (bstr f.mtch.text), .bool f.mtch.weak, .string (bstr f.non.text), .bool f.non.weak]
  have B1 := below_new w (.cells #[.string (bstr f.object), .int .i64 f.span.frm, .int .i64 f.span.to, .string (bstr f.mtch.text), .bool f.mtch.weak, .string (bstr f.non.text), .bool f.non.weak] 40)
  go_enter Tryz.func71, Tryz.ntmps71
  go_wp2_with fail
  generalize w.alloc (.cells #[.string (bstr f.object), .int .i64 f.span.frm, .int .i64 f.span.to, .string (bstr f.mtch.text), .bool f.mtch.weak, .string (bstr f.non.text), .bool f.non.weak] 40) = w1 at *
  have C1 := B.trans (B1.mono B.size)
  have P1 := Wrote.refl (H.below B1)
  have E1 := C1
  refine (text_calls w1 _ g _ f.object (hF.mem (by simp [fetW])) P1.ok (by simp only [List.length_append, List.length_nil]; omega)).mono ?_
  rintro e w2 ⟨rfl, Q2⟩
  have P2 := P1.trans Q2
  have E2 := C1.trans P2.below
  clear Q2 P1
  have c2_1 := (b1.wr P2 F).at_ (i := 1) (v := .int .i64 f.span.frm) rfl
  have c2_2 := (b1.wr P2 F).at_ (i := 2) (v := .int .i64 f.span.to) rfl
  go_wp2_with fail
  refine (wspan_calls hS w2 E2 g _ f.span hi P2.ok (by simp only [List.length_append, List.length_cons, List.length_nil]; omega)).mono ?_
  rintro e w3 ⟨rfl, Q3⟩
  have P3 := P2.trans Q3
  have E3 := C1.trans P3.below
  clear Q3 P2 E2
  have c3_3 := (b1.wr P3 F).at_ (i := 3) (v := .string (bstr f.mtch.text)) rfl
  have c3_4 := (b1.wr P3 F).at_ (i := 4) (v := .bool f.mtch.weak) rfl
  go_wp2_with fail
  refine (wtag_calls w3 _ g _ f.mtch (hF.mem (by simp [fetW])) P3.ok (by simp only [List.length_append, List.length_cons, List.length_nil, spnW]; omega)).mono ?_
  rintro e w4 ⟨rfl, Q4⟩
  have P4 := P3.trans Q4
  have E4 := C1.trans P4.below
  clear Q4 P3 E3
  have c4_5 := (b1.wr P4 F).at_ (i := 5) (v := .string (bstr f.non.text)) rfl
  have c4_6 := (b1.wr P4 F).at_ (i := 6) (v := .bool f.non.weak) rfl
  go_wp2_with fail
  refine (wtag_calls w4 _ g _ f.non (hF.mem (by simp [fetW])) P4.ok (by simp only [List.length_append, List.length_cons, List.length_nil, spnW]; omega)).mono ?_
  rintro e w5 ⟨rfl, Q5⟩
  have P5 := P4.trans Q5
  have E5 := C1.trans P5.below
  clear Q5 P4 E4
  go_wp2_with fail
  go_end0
  have R := Wrote.from_ H B1 P5
  refine ⟨rfl, ?_⟩
  simpa [fetW, spnW] using R
def sixM (m : MetR) : List Int := [m.modi, m.len, m.have_, m.fresh, m.while_, m.error]
theorem six_at (m : MetR) (k : Nat) (h : k < 6) : (#[.int .i64 m.modi, .int .i64 m.len, .int .i64 m.have_, .int .i64 m.fresh, .int .i64 m.while_, .int .i64 m.error] : Array Value)[k]? = some (.int .i64 ((sixM m).getD k 0)) := by
  rcases (by omega : k = 0 ∨ k = 1 ∨ k = 2 ∨ k = 3 ∨ k = 4 ∨ k = 5) with rfl | rfl | rfl | rfl | rfl | rfl <;> rfl
theorem six_take (m : MetR) (k : Nat) (h : k < 6) : ((sixM m).take (k + 1)).map numT = ((sixM m).take k).map numT ++ [numT ((sixM m).getD k 0)] := by
  rcases (by omega : k = 0 ∨ k = 1 ∨ k = 2 ∨ k = 3 ∨ k = 4 ∨ k = 5) with rfl | rfl | rfl | rfl | rfl | rfl <;> rfl
theorem six_len (m : MetR) (k : Nat) : (((sixM m).take k).map numT).length ≤ 6 := by
  rw [List.length_map, List.length_take]
  have : (sixM m).length = 6 := rfl
  omega
theorem six_i (m : MetR) (h : MetI m.abs) (k : Nat) (hk : k < 6) : I64 ((sixM m).getD k 0) := by
  obtain ⟨a1, a2, a3, a4, a5, a6, _⟩ := h
  rcases (by omega : k = 0 ∨ k = 1 ∨ k = 2 ∨ k = 3 ∨ k = 4 ∨ k = 5) with rfl | rfl | rfl | rfl | rfl | rfl <;> assumption
set_option maxHeartbeats 1600000 in
theorem wmeta_calls {w0 : World} (hS : Std w0) (w : World) (B : Below w0.heap.size w0 w) (g : Nat) (ws : List Txt) (m : MetR) (hm : MetOK w0 m) (H : WrOK w w0.heap.size g ws) (hF : Fits (metW m.abs)) (hn : ws.length + (metW m.abs).length ≤ 10000000) :
    Calls Tryz.prog 66 #[.pointer (some ⟨g, 0, none⟩), .agg #[.string (bstr m.tag.text), .bool m.tag.weak, .int .i64 m.modi, .int .i64 m.len, .int .i64 m.have_, .int .i64 m.fresh, .int .i64 m.while_, .int .i64 m.error, .slice m.keys.A m.keys.l.length m.keys.cap, .string (bstr m.tenant), .bool m.keep]] w fun e w' => e = .returned (.tuple #[]) ∧ Wrote w0.heap.size g ws (metW m.abs) w w' := by
  have hlen : (metW m.abs).length = m.keys.l.length + 10 := by simp [metW, MetR.abs, textsW_len]; try omega
  rw [hlen] at hn
  have F := FrW.new H (.cells #[.string (bstr m.tag.text), .bool m.tag.weak, .int .i64 m.modi, .int .i64 m.len, .int .i64 m.have_, .int .i64 m.fresh, .int .i64 m.while_, .int .i64 m.error, .slice m.keys.A m.keys.l.length m.keys.cap, .string (bstr m.tenant), .bool m.keep] 32)
  have b1 := Blk.new w 32 #[.string (bstr m.tag.text), .bool m.tag.weak, .int .i64 m.modi, .int .i64 m.len, .int .i64 m.have_, .int .i64 m.fresh, .int .i64 m.while_, .int .i64 m.error, .slice m.keys.A m.keys.l.length m.keys.cap, .string (bstr m.tenant), .bool m.keep]
  have B1 := below_new w (.cells #[.string (bstr m.tag.text), .bool m.tag.weak, .int .i64 m.modi, .int .i64 m.len, .int .i64 m.have_, .int .i64 m.fresh, .int .i64 m.while_, .int .i64 m.error, .slice m.keys.A m.keys.l.length m.keys.cap, .string (bstr m.tenant), .bool m.keep] 32)
  go_enter Tryz.func66, Tryz.ntmps66
  go_wp2_with fail
  generalize w.alloc (.cells #[.string (bstr m.tag.text), .bool m.tag.weak, .int .i64 m.modi, .int .i64 m.len, .int .i64 m.have_, .int .i64 m.fresh, .int .i64 m.while_, .int .i64 m.error, .slice m.keys.A m.keys.l.length m.keys.cap, .string (bstr m.tenant), .bool m.keep] 32) = w1 at *
  have C1 := B.trans (B1.mono B.size)
  have P1 := Wrote.refl (H.below B1)
  have E1 := C1
  refine (wtag_calls w1 _ g _ m.tag (hF.mem (by simp [metW, MetR.abs])) P1.ok (by simp only [List.length_append, List.length_nil]; omega)).mono ?_
  rintro e w2 ⟨rfl, Q2⟩
  have P2 := P1.trans Q2
  have E2 := C1.trans P2.below
  clear Q2 P1
  have c2_2 := (b1.wr P2 F).at_ (i := 2) (v := .int .i64 m.modi) rfl
  have c2_3 := (b1.wr P2 F).at_ (i := 3) (v := .int .i64 m.len) rfl
  have c2_4 := (b1.wr P2 F).at_ (i := 4) (v := .int .i64 m.have_) rfl
  have c2_5 := (b1.wr P2 F).at_ (i := 5) (v := .int .i64 m.fresh) rfl
  have c2_6 := (b1.wr P2 F).at_ (i := 6) (v := .int .i64 m.while_) rfl
  have c2_7 := (b1.wr P2 F).at_ (i := 7) (v := .int .i64 m.error) rfl
  go_wp2_with fail
  have r2 := Blk.new w2 2 #[.int .i64 m.modi, .int .i64 m.len, .int .i64 m.have_, .int .i64 m.fresh, .int .i64 m.while_, .int .i64 m.error]
  have R2 := FrW.new P2.ok (.cells #[.int .i64 m.modi, .int .i64 m.len, .int .i64 m.have_, .int .i64 m.fresh, .int .i64 m.while_, .int .i64 m.error] 2)
  have P3 := P2.call (below_new w2 (.cells #[.int .i64 m.modi, .int .i64 m.len, .int .i64 m.have_, .int .i64 m.fresh, .int .i64 m.while_, .int .i64 m.error] 2))
  go_loopw [5, 24] (fun _ i wr => ∃ k : Nat, k ≤ 6 ∧ i = .int .i64 (k : Int) ∧ Wrote w0.heap.size g ws (([] ++ [tagT m.tag]) ++ ((sixM m).take k).map numT) w1 wr ∧ Blk wr w2.heap.size 2 #[.int .i64 m.modi, .int .i64 m.len, .int .i64 m.have_, .int .i64 m.fresh, .int .i64 m.while_, .int .i64 m.error] ∧ FrW wr g w2.heap.size) (fun _ i _ => 6 - (intOf i).toNat)
  case atStart => exact ⟨0, by omega, rfl, by simpa using P3, r2, R2⟩
  case round =>
    clear P3 r2 R2 c2_2 c2_3 c2_4 c2_5 c2_6 c2_7
    obtain ⟨k, hk, rfl, P3, r3, R3⟩ := hrel
    have E3 := C1.trans P3.below
    have hl3 : (ws ++ (([] ++ [tagT m.tag]) ++ ((sixM m).take k).map numT)).length ≤ 10000000 := by
      have := six_len m k
      simp only [List.length_append, List.length_cons, List.length_nil]
      omega
    by_cases hlt : k < 6
    · have dec : decide ((k : Int) < 6) = true := decide_eq_true (by omega)
      have dec' : decide (k < 6) = true := decide_eq_true hlt
      have x0 := r3.at_ (six_at m k hlt)
      have HT := Lib.hid (six_take m k hlt)
      have hi := six_i m hm.i k hlt
      generalize (sixM m).getD k 0 = n at *
      go_wp2_with fail
      refine (number_calls wr _ g _ n hi (hS.below E3) P3.ok hl3).mono ?_
      rintro e w4 ⟨rfl, Q4⟩
      have P4 := P3.trans Q4
      have r4 := r3.wr Q4 R3
      have R4 := (Q4.fr _ R3).2
      clear Q4 P3 r3 R3
      go_wp2_with fail
      go_roundw
      case rel => exact ⟨k + 1, by omega, by go_num, by rw [HT.out, ← List.append_assoc]; exact P4, r4, R4⟩
      case measure => simp [intOf]; omega
    · obtain rfl : k = 6 := by omega
      have c3_8 := (b1.wr P3 F).at_ (i := 8) (v := .slice m.keys.A m.keys.l.length m.keys.cap) rfl
      replace P3 : Wrote w0.heap.size g ws ([tagT m.tag, numT m.modi, numT m.len, numT m.have_, numT m.fresh, numT m.while_, numT m.error]) w1 wr := P3
      clear hl3 r3 R3
      have w3e : ∃ w3, w3 = wr := ⟨_, rfl⟩
      obtain ⟨w3, rfl⟩ := w3e
      go_wp2_with fail
      refine (wtexts_calls hS w3 E3 g _ m.keys.A m.keys.cap m.keys.l (hm.keys.rv) P3.ok (hF.sub (by simp [metW, MetR.abs, textsW_len]; try omega) (fun x hx => by simp [metW, MetR.abs, hx])) (by simp only [List.length_append, List.length_cons, List.length_nil, textsW_len]; omega)).mono ?_
      rintro e w4 ⟨rfl, Q4⟩
      have P4 := P3.trans Q4
      have E4 := C1.trans P4.below
      clear Q4 P3 E3
      have c4_9 := (b1.wr P4 F).at_ (i := 9) (v := .string (bstr m.tenant)) rfl
      go_wp2_with fail
      refine (text_calls w4 _ g _ m.tenant (hF.mem (by simp [metW, MetR.abs])) P4.ok (by simp only [List.length_append, List.length_cons, List.length_nil, textsW_len]; omega)).mono ?_
      rintro e w5 ⟨rfl, Q5⟩
      have P5 := P4.trans Q5
      have E5 := C1.trans P5.below
      clear Q5 P4 E4
      have c5_10 := (b1.wr P5 F).at_ (i := 10) (v := .bool m.keep) rfl
      go_wp2_with fail
      refine (truth_calls w5 _ g _ m.keep P5.ok (by simp only [List.length_append, List.length_cons, List.length_nil, textsW_len]; omega)).mono ?_
      rintro e w6 ⟨rfl, Q6⟩
      have P6 := P5.trans Q6
      have E6 := C1.trans P6.below
      clear Q6 P5 E5
      go_wp2_with fail
      go_end0
      have R := Wrote.from_ H B1 P6
      refine ⟨rfl, ?_⟩
      simpa [metW, MetR.abs, textsW_len] using R
set_option maxHeartbeats 1600000 in
theorem wreply_calls {w0 : World} (hS : Std w0) (w : World) (B : Below w0.heap.size w0 w) (g : Nat) (ws : List Txt) (r : RepR) (hm : RepOK w0 r) (H : WrOK w w0.heap.size g ws) (hF : Fits (repW r.abs)) (hn : ws.length + (repW r.abs).length ≤ 10000000) :
    Calls Tryz.prog 72 #[.pointer (some ⟨g, 0, none⟩), .agg #[.int .i64 r.status, .string (bstr r.met.tag.text), .bool r.met.tag.weak, .int .i64 r.met.modi, .int .i64 r.met.len, .int .i64 r.met.have_, .int .i64 r.met.fresh, .int .i64 r.met.while_, .int .i64 r.met.error, .slice r.met.keys.A r.met.keys.l.length r.met.keys.cap, .string (bstr r.met.tenant), .bool r.met.keep, .int .i64 r.span.frm, .int .i64 r.span.to, .int .i64 r.age]] w fun e w' => e = .returned (.tuple #[]) ∧ Wrote w0.heap.size g ws (repW r.abs) w w' := by
  have hlen : (repW r.abs).length = r.met.keys.l.length + 14 := by simp [repW, RepR.abs, metW, MetR.abs, textsW_len, spn_len]; try omega
  rw [hlen] at hn
  have F := FrW.new H (.cells #[.int .i64 r.status, .string (bstr r.met.tag.text), .bool r.met.tag.weak, .int .i64 r.met.modi, .int .i64 r.met.len, .int .i64 r.met.have_, .int .i64 r.met.fresh, .int .i64 r.met.while_, .int .i64 r.met.error, .slice r.met.keys.A r.met.keys.l.length r.met.keys.cap, .string (bstr r.met.tenant), .bool r.met.keep, .int .i64 r.span.frm, .int .i64 r.span.to, .int .i64 r.age] 42)
  have b1 := Blk.new w 42 #[.int .i64 r.status, .string (bstr r.met.tag.text), .bool r.met.tag.weak, .int .i64 r.met.modi, .int .i64 r.met.len, .int .i64 r.met.have_, .int .i64 r.met.fresh, .int .i64 r.met.while_, .int .i64 r.met.error, .slice r.met.keys.A r.met.keys.l.length r.met.keys.cap, .string (bstr r.met.tenant), .bool r.met.keep, .int .i64 r.span.frm, .int .i64 r.span.to, .int .i64 r.age]
  have B1 := below_new w (.cells #[.int .i64 r.status, .string (bstr r.met.tag.text), .bool r.met.tag.weak, .int .i64 r.met.modi, .int .i64 r.met.len, .int .i64 r.met.have_, .int .i64 r.met.fresh, .int .i64 r.met.while_, .int .i64 r.met.error, .slice r.met.keys.A r.met.keys.l.length r.met.keys.cap, .string (bstr r.met.tenant), .bool r.met.keep, .int .i64 r.span.frm, .int .i64 r.span.to, .int .i64 r.age] 42)
  go_enter Tryz.func72, Tryz.ntmps72
  go_wp2_with fail
  generalize w.alloc (.cells #[.int .i64 r.status, .string (bstr r.met.tag.text), .bool r.met.tag.weak, .int .i64 r.met.modi, .int .i64 r.met.len, .int .i64 r.met.have_, .int .i64 r.met.fresh, .int .i64 r.met.while_, .int .i64 r.met.error, .slice r.met.keys.A r.met.keys.l.length r.met.keys.cap, .string (bstr r.met.tenant), .bool r.met.keep, .int .i64 r.span.frm, .int .i64 r.span.to, .int .i64 r.age] 42) = w1 at *
  have C1 := B.trans (B1.mono B.size)
  have P1 := Wrote.refl (H.below B1)
  have E1 := C1
  refine (number_calls w1 _ g _ r.status hm.i.1 (hS.below E1) P1.ok (by simp only [List.length_append, List.length_nil]; omega)).mono ?_
  rintro e w2 ⟨rfl, Q2⟩
  have P2 := P1.trans Q2
  have E2 := C1.trans P2.below
  clear Q2 P1
  have c2_1 := (b1.wr P2 F).at_ (i := 1) (v := .string (bstr r.met.tag.text)) rfl
  have c2_2 := (b1.wr P2 F).at_ (i := 2) (v := .bool r.met.tag.weak) rfl
  have c2_3 := (b1.wr P2 F).at_ (i := 3) (v := .int .i64 r.met.modi) rfl
  have c2_4 := (b1.wr P2 F).at_ (i := 4) (v := .int .i64 r.met.len) rfl
  have c2_5 := (b1.wr P2 F).at_ (i := 5) (v := .int .i64 r.met.have_) rfl
  have c2_6 := (b1.wr P2 F).at_ (i := 6) (v := .int .i64 r.met.fresh) rfl
  have c2_7 := (b1.wr P2 F).at_ (i := 7) (v := .int .i64 r.met.while_) rfl
  have c2_8 := (b1.wr P2 F).at_ (i := 8) (v := .int .i64 r.met.error) rfl
  have c2_9 := (b1.wr P2 F).at_ (i := 9) (v := .slice r.met.keys.A r.met.keys.l.length r.met.keys.cap) rfl
  have c2_10 := (b1.wr P2 F).at_ (i := 10) (v := .string (bstr r.met.tenant)) rfl
  have c2_11 := (b1.wr P2 F).at_ (i := 11) (v := .bool r.met.keep) rfl
  go_wp2_with fail
  refine (wmeta_calls hS w2 E2 g _ r.met hm.met P2.ok (hF.sub (by simp [repW, RepR.abs]; try omega) (fun x hx => by simp [repW, RepR.abs, hx])) (by simp only [List.length_append, List.length_cons, List.length_nil, metW, MetR.abs, textsW_len]; omega)).mono ?_
  rintro e w3 ⟨rfl, Q3⟩
  have P3 := P2.trans Q3
  have E3 := C1.trans P3.below
  clear Q3 P2 E2
  have c3_12 := (b1.wr P3 F).at_ (i := 12) (v := .int .i64 r.span.frm) rfl
  have c3_13 := (b1.wr P3 F).at_ (i := 13) (v := .int .i64 r.span.to) rfl
  go_wp2_with fail
  refine (wspan_calls hS w3 E3 g _ r.span hm.i.2.2.1 P3.ok (by simp only [List.length_append, List.length_cons, List.length_nil, metW, MetR.abs, textsW_len]; omega)).mono ?_
  rintro e w4 ⟨rfl, Q4⟩
  have P4 := P3.trans Q4
  have E4 := C1.trans P4.below
  clear Q4 P3 E3
  have c4_14 := (b1.wr P4 F).at_ (i := 14) (v := .int .i64 r.age) rfl
  go_wp2_with fail
  refine (number_calls w4 _ g _ r.age hm.i.2.2.2 (hS.below E4) P4.ok (by simp only [List.length_append, List.length_cons, List.length_nil, metW, MetR.abs, textsW_len, spn_len]; omega)).mono ?_
  rintro e w5 ⟨rfl, Q5⟩
  have P5 := P4.trans Q5
  have E5 := C1.trans P5.below
  clear Q5 P4 E4
  go_wp2_with fail
  go_end0
  have R := Wrote.from_ H B1 P5
  refine ⟨rfl, ?_⟩
  simpa [repW, RepR.abs, metW, MetR.abs, textsW_len, spn_len] using R
set_option maxHeartbeats 1600000 in
theorem wanswer_calls {w0 : World} (hS : Std w0) (w : World) (B : Below w0.heap.size w0 w) (g : Nat) (ws : List Txt) (a : AnsR) (hm : AnsOK w0 a) (H : WrOK w w0.heap.size g ws) (hF : Fits (ansW a.abs)) (hn : ws.length + (ansW a.abs).length ≤ 10000000) :
    Calls Tryz.prog 70 #[.pointer (some ⟨g, 0, none⟩), .agg #[.int .i64 a.status, .slice a.fields.A a.fields.l.length a.fields.cap, .slice a.parts.A a.parts.l.length a.parts.cap, .int .i64 a.size]] w fun e w' => e = .returned (.tuple #[]) ∧ Wrote w0.heap.size g ws (ansW a.abs) w w' := by
  have hlen : (ansW a.abs).length = a.fields.l.length * 2 + a.parts.l.length * 3 + 4 := by simp [ansW, AnsR.abs, fldsW_len, prtsW_len]; try omega
  rw [hlen] at hn
  have F := FrW.new H (.cells #[.int .i64 a.status, .slice a.fields.A a.fields.l.length a.fields.cap, .slice a.parts.A a.parts.l.length a.parts.cap, .int .i64 a.size] 36)
  have b1 := Blk.new w 36 #[.int .i64 a.status, .slice a.fields.A a.fields.l.length a.fields.cap, .slice a.parts.A a.parts.l.length a.parts.cap, .int .i64 a.size]
  have B1 := below_new w (.cells #[.int .i64 a.status, .slice a.fields.A a.fields.l.length a.fields.cap, .slice a.parts.A a.parts.l.length a.parts.cap, .int .i64 a.size] 36)
  go_enter Tryz.func70, Tryz.ntmps70
  go_wp2_with fail
  generalize w.alloc (.cells #[.int .i64 a.status, .slice a.fields.A a.fields.l.length a.fields.cap, .slice a.parts.A a.parts.l.length a.parts.cap, .int .i64 a.size] 36) = w1 at *
  have C1 := B.trans (B1.mono B.size)
  have P1 := Wrote.refl (H.below B1)
  have E1 := C1
  have hFl : ((a.fields.l).flatMap fldW).length = a.fields.l.length * 2 := flat_len fldW 2 (fun _ => rfl) _
  have hPl : ((a.parts.l).flatMap prtW).length = a.parts.l.length * 3 := flat_len prtW 3 (fun _ => rfl) _
  refine (number_calls w1 _ g _ a.status hm.i.1 (hS.below E1) P1.ok (by simp only [List.length_append, List.length_nil]; omega)).mono ?_
  rintro e w2 ⟨rfl, Q2⟩
  have P2 := P1.trans Q2
  have E2 := C1.trans P2.below
  clear Q2 P1
  have c2_1 := (b1.wr P2 F).at_ (i := 1) (v := .slice a.fields.A a.fields.l.length a.fields.cap) rfl
  go_wp2_with fail
  refine (number_calls w2 _ g _ a.fields.l.length ⟨by omega, by omega⟩ (hS.below E2) P2.ok (by simp only [List.length_append, List.length_cons, List.length_nil]; omega)).mono ?_
  rintro e w3 ⟨rfl, Q3⟩
  have P3 := P2.trans Q3
  have E3 := C1.trans P3.below
  clear Q3 P2 E2
  have c3_1 := (b1.wr P3 F).at_ (i := 1) (v := .slice a.fields.A a.fields.l.length a.fields.cap) rfl
  go_wp2_with fail
  have HI : ∀ x ∈ a.fields.l, True := fun _ _ => trivial
  have hsub : ∀ x ∈ a.fields.l.flatMap fldW, x ∈ ansW a.abs := fun x hx => List.mem_cons_of_mem _ (List.mem_append_left _ (List.mem_cons_of_mem _ hx))
  go_loopw [5, 20] (fun _ i wr => ∃ k : Nat, k ≤ a.fields.l.length ∧ i = .int .i64 (k : Int) ∧ Wrote w0.heap.size g ws ((([] ++ [numT a.status]) ++ [numT a.fields.l.length]) ++ (a.fields.l.take k).flatMap fldW) w1 wr) (fun _ i _ => a.fields.l.length - (intOf i).toNat)
  case atStart => exact ⟨0, by omega, rfl, by simpa using P3⟩
  case round =>
    clear P3
    obtain ⟨k, hk, rfl, P4⟩ := hrel
    have E4 := C1.trans P4.below
    have htl := fld_take_len a.fields.l k hk
    by_cases hlt : k < a.fields.l.length
    · have dec : decide ((k : Int) < (a.fields.l.length : Int)) = true := decide_eq_true (by omega)
      have dec' : decide (k < a.fields.l.length) = true := decide_eq_true hlt
      obtain ⟨b, off, hA, hbs, hc, hc1⟩ := fl_elem2 fdC_len ((hm.fields.rv).below E4) hlt
      have HT := Lib.hid (flat_take_succ fldW hlt)
      have hmem := List.getElem_mem hlt
      have hii := HI _ hmem
      have hff := fun (x : Txt) (hx : x ∈ fldW a.fields.l[k]) => hF.mem (hsub x (List.mem_flatMap.2 ⟨_, hmem, hx⟩))
      generalize a.fields.l[k] = x at *
      have x0 := hc (.string (bstr x.name)) rfl
      have x1 := hc1 (.string (bstr x.value)) rfl
      clear hc hc1 hmem
      have e9 := Blk.new wr 76 #[.string (bstr x.name), .string (bstr x.value)]
      have F9 := FrW.new P4.ok (.cells #[.string (bstr x.name), .string (bstr x.value)] 76)
      have B9 := below_new wr (.cells #[.string (bstr x.name), .string (bstr x.value)] 76)
      rw [hA]
      go_wp2_with fail
      generalize wr.alloc (.cells #[.string (bstr x.name), .string (bstr x.value)] 76) = v0 at *
      have P9 := P4.call B9
      have T0 : Wrote w0.heap.size g (ws ++ ((([] ++ [numT a.status]) ++ [numT a.fields.l.length]) ++ (a.fields.l.take k).flatMap fldW)) [] v0 v0 := Wrote.refl P9.ok
      refine (text_calls v0 _ g _ x.name (hff _ (by simp [fldW])) T0.ok (by simp only [List.length_append, List.length_cons, List.length_nil, htl]; omega)).mono ?_
      rintro e v1 ⟨rfl, Q1⟩
      have T1 := T0.trans Q1
      clear Q1 T0
      have y0_1 := (e9.wr T1 F9).at_ (i := 1) (v := .string (bstr x.value)) rfl
      go_wp2_with fail
      refine (text_calls v1 _ g _ x.value (hff _ (by simp [fldW])) T1.ok (by simp only [List.length_append, List.length_cons, List.length_nil, htl]; omega)).mono ?_
      rintro e v2 ⟨rfl, Q2⟩
      have T2 := T1.trans Q2
      clear Q2 T1
      go_wp2_with fail
      have PN := P9.trans T2
      go_roundw
      case rel => exact ⟨k + 1, by omega, by go_num, by rw [HT.out, ← List.append_assoc]; simpa [fldW] using PN⟩
      case measure => simp [intOf]; omega
    · obtain rfl : k = a.fields.l.length := by omega
      have dec : decide ((a.fields.l.length : Int) < (a.fields.l.length : Int)) = false := decide_eq_false (by omega)
      rw [List.take_length] at P4 htl
      have w3e : ∃ w4, w4 = wr := ⟨_, rfl⟩
      obtain ⟨w4, rfl⟩ := w3e
      have c4_2 := (b1.wr P4 F).at_ (i := 2) (v := .slice a.parts.A a.parts.l.length a.parts.cap) rfl
      go_wp2_with fail
      refine (number_calls w4 _ g _ a.parts.l.length ⟨by omega, by omega⟩ (hS.below E4) P4.ok (by simp only [List.length_append, List.length_cons, List.length_nil, hFl]; omega)).mono ?_
      rintro e w5 ⟨rfl, Q5⟩
      have P5 := P4.trans Q5
      have E5 := C1.trans P5.below
      clear Q5 P4 E4
      have c5_2 := (b1.wr P5 F).at_ (i := 2) (v := .slice a.parts.A a.parts.l.length a.parts.cap) rfl
      go_wp2_with fail
      clear HI hsub
      have HI := hm.i.2.2.1.2
      have hsub : ∀ x ∈ a.parts.l.flatMap prtW, x ∈ ansW a.abs := fun x hx => List.mem_cons_of_mem _ (List.mem_append_right _ (List.mem_append_left _ (List.mem_cons_of_mem _ hx)))
      go_loopw [7, 41] (fun _ i wr => ∃ k : Nat, k ≤ a.parts.l.length ∧ i = .int .i64 (k : Int) ∧ Wrote w0.heap.size g ws ((((([] ++ [numT a.status]) ++ [numT a.fields.l.length]) ++ a.fields.l.flatMap fldW) ++ [numT a.parts.l.length]) ++ (a.parts.l.take k).flatMap prtW) w1 wr) (fun _ i _ => a.parts.l.length - (intOf i).toNat)
      case atStart => exact ⟨0, by omega, rfl, by simpa using P5⟩
      case round =>
        clear P5
        obtain ⟨k, hk, rfl, P6⟩ := hrel
        have E6 := C1.trans P6.below
        have htl := prt_take_len a.parts.l k hk
        by_cases hlt : k < a.parts.l.length
        · have dec : decide ((k : Int) < (a.parts.l.length : Int)) = true := decide_eq_true (by omega)
          have dec' : decide (k < a.parts.l.length) = true := decide_eq_true hlt
          obtain ⟨b, off, hA, hbs, hc, hc1, hc2⟩ := fl_elem3 ptC_len ((hm.parts.rv).below E6) hlt
          have HT := Lib.hid (flat_take_succ prtW hlt)
          have hmem := List.getElem_mem hlt
          have hii := HI _ hmem
          have hff := fun (x : Txt) (hx : x ∈ prtW a.parts.l[k]) => hF.mem (hsub x (List.mem_flatMap.2 ⟨_, hmem, hx⟩))
          generalize a.parts.l[k] = x at *
          have x0 := hc (.string (bstr x.text)) rfl
          have x1 := hc1 (.int .i64 x.span.frm) rfl
          have x2 := hc2 (.int .i64 x.span.to) rfl
          clear hc hc1 hc2 hmem
          have e9 := Blk.new wr 78 #[.string (bstr x.text), .int .i64 x.span.frm, .int .i64 x.span.to]
          have F9 := FrW.new P6.ok (.cells #[.string (bstr x.text), .int .i64 x.span.frm, .int .i64 x.span.to] 78)
          have B9 := below_new wr (.cells #[.string (bstr x.text), .int .i64 x.span.frm, .int .i64 x.span.to] 78)
          rw [hA]
          go_wp2_with fail
          generalize wr.alloc (.cells #[.string (bstr x.text), .int .i64 x.span.frm, .int .i64 x.span.to] 78) = v0 at *
          have P9 := P6.call B9
          have T0 : Wrote w0.heap.size g (ws ++ ((((([] ++ [numT a.status]) ++ [numT a.fields.l.length]) ++ a.fields.l.flatMap fldW) ++ [numT a.parts.l.length]) ++ (a.parts.l.take k).flatMap prtW)) [] v0 v0 := Wrote.refl P9.ok
          refine (text_calls v0 _ g _ x.text (hff _ (by simp [prtW])) T0.ok (by simp only [List.length_append, List.length_cons, List.length_nil, htl, hFl]; omega)).mono ?_
          rintro e v1 ⟨rfl, Q1⟩
          have T1 := T0.trans Q1
          clear Q1 T0
          have y0_1 := (e9.wr T1 F9).at_ (i := 1) (v := .int .i64 x.span.frm) rfl
          have y0_2 := (e9.wr T1 F9).at_ (i := 2) (v := .int .i64 x.span.to) rfl
          go_wp2_with fail
          refine (wspan_calls hS v1 ((C1.trans P9.below).trans T1.below) g _ x.span hii T1.ok (by simp only [List.length_append, List.length_cons, List.length_nil, htl, hFl]; omega)).mono ?_
          rintro e v2 ⟨rfl, Q2⟩
          have T2 := T1.trans Q2
          clear Q2 T1
          go_wp2_with fail
          have PN := P9.trans T2
          go_roundw
          case rel => exact ⟨k + 1, by omega, by go_num, by rw [HT.out, ← List.append_assoc]; simpa [prtW, spnW] using PN⟩
          case measure => simp [intOf]; omega
        · obtain rfl : k = a.parts.l.length := by omega
          have dec : decide ((a.parts.l.length : Int) < (a.parts.l.length : Int)) = false := decide_eq_false (by omega)
          rw [List.take_length] at P6 htl
          have w3e : ∃ w6, w6 = wr := ⟨_, rfl⟩
          obtain ⟨w6, rfl⟩ := w3e
          have c6_3 := (b1.wr P6 F).at_ (i := 3) (v := .int .i64 a.size) rfl
          go_wp2_with fail
          refine (number_calls w6 _ g _ a.size hm.i.2.2.2 (hS.below E6) P6.ok (by simp only [List.length_append, List.length_cons, List.length_nil, hFl, hPl]; omega)).mono ?_
          rintro e w7 ⟨rfl, Q7⟩
          have P7 := P6.trans Q7
          have E7 := C1.trans P7.below
          clear Q7 P6 E6
          go_wp2_with fail
          go_end0
          have R := Wrote.from_ H B1 P7
          refine ⟨rfl, ?_⟩
          simpa [ansW, AnsR.abs, fldsW, prtsW] using R
set_option maxHeartbeats 1600000 in
theorem wrequest_calls {w0 : World} (hS : Std w0) (w : World) (B : Below w0.heap.size w0 w) (g : Nat) (ws : List Txt) (q : ReqR) (hm : ReqOK w0 q) (H : WrOK w w0.heap.size g ws) (hF : Fits (reqW q.abs)) (hn : ws.length + (reqW q.abs).length ≤ 10000000) :
    Calls Tryz.prog 69 #[.pointer (some ⟨g, 0, none⟩), .agg #[.bool q.head, .string (bstr q.object), .slice q.specs.A q.specs.l.length q.specs.cap, .slice q.mtch.A q.mtch.l.length q.mtch.cap, .slice q.non.A q.non.l.length q.non.cap, .bool q.anyM, .bool q.anyN, .int .i64 q.since, .int .i64 q.unless_, .string (bstr q.range.text), .bool q.range.weak]] w fun e w' => e = .returned (.tuple #[]) ∧ Wrote w0.heap.size g ws (reqW q.abs) w w' := by
  have hlen : (reqW q.abs).length = q.specs.l.length * 2 + q.mtch.l.length + q.non.l.length + 10 := by simp [reqW, cndW, ReqR.abs, spnsW_len, tagsW_len]; try omega
  rw [hlen] at hn
  have F := FrW.new H (.cells #[.bool q.head, .string (bstr q.object), .slice q.specs.A q.specs.l.length q.specs.cap, .slice q.mtch.A q.mtch.l.length q.mtch.cap, .slice q.non.A q.non.l.length q.non.cap, .bool q.anyM, .bool q.anyN, .int .i64 q.since, .int .i64 q.unless_, .string (bstr q.range.text), .bool q.range.weak] 29)
  have b1 := Blk.new w 29 #[.bool q.head, .string (bstr q.object), .slice q.specs.A q.specs.l.length q.specs.cap, .slice q.mtch.A q.mtch.l.length q.mtch.cap, .slice q.non.A q.non.l.length q.non.cap, .bool q.anyM, .bool q.anyN, .int .i64 q.since, .int .i64 q.unless_, .string (bstr q.range.text), .bool q.range.weak]
  have B1 := below_new w (.cells #[.bool q.head, .string (bstr q.object), .slice q.specs.A q.specs.l.length q.specs.cap, .slice q.mtch.A q.mtch.l.length q.mtch.cap, .slice q.non.A q.non.l.length q.non.cap, .bool q.anyM, .bool q.anyN, .int .i64 q.since, .int .i64 q.unless_, .string (bstr q.range.text), .bool q.range.weak] 29)
  go_enter Tryz.func69, Tryz.ntmps69
  go_wp2_with fail
  generalize w.alloc (.cells #[.bool q.head, .string (bstr q.object), .slice q.specs.A q.specs.l.length q.specs.cap, .slice q.mtch.A q.mtch.l.length q.mtch.cap, .slice q.non.A q.non.l.length q.non.cap, .bool q.anyM, .bool q.anyN, .int .i64 q.since, .int .i64 q.unless_, .string (bstr q.range.text), .bool q.range.weak] 29) = w1 at *
  have C1 := B.trans (B1.mono B.size)
  have P1 := Wrote.refl (H.below B1)
  have E1 := C1
  have hSl : ((q.specs.l).flatMap spnW).length = q.specs.l.length * 2 := flat_len spnW 2 (fun _ => rfl) _
  have hsub : ∀ x ∈ q.specs.l.flatMap spnW, x ∈ reqW q.abs := fun x hx => List.mem_cons_of_mem _ (List.mem_cons_of_mem _ (List.mem_append_left _ (List.mem_cons_of_mem _ hx)))
  have HI := hm.i.1.2
  refine (truth_calls w1 _ g _ q.head P1.ok (by simp only [List.length_append, List.length_nil]; omega)).mono ?_
  rintro e w2 ⟨rfl, Q2⟩
  have P2 := P1.trans Q2
  have E2 := C1.trans P2.below
  clear Q2 P1
  have c2_1 := (b1.wr P2 F).at_ (i := 1) (v := .string (bstr q.object)) rfl
  go_wp2_with fail
  refine (text_calls w2 _ g _ q.object (hF.mem (by simp [reqW, ReqR.abs])) P2.ok (by simp only [List.length_append, List.length_cons, List.length_nil]; omega)).mono ?_
  rintro e w3 ⟨rfl, Q3⟩
  have P3 := P2.trans Q3
  have E3 := C1.trans P3.below
  clear Q3 P2 E2
  have c3_2 := (b1.wr P3 F).at_ (i := 2) (v := .slice q.specs.A q.specs.l.length q.specs.cap) rfl
  go_wp2_with fail
  refine (number_calls w3 _ g _ q.specs.l.length ⟨by omega, by omega⟩ (hS.below E3) P3.ok (by simp only [List.length_append, List.length_cons, List.length_nil]; omega)).mono ?_
  rintro e w4 ⟨rfl, Q4⟩
  have P4 := P3.trans Q4
  have E4 := C1.trans P4.below
  clear Q4 P3 E3
  have c4_2 := (b1.wr P4 F).at_ (i := 2) (v := .slice q.specs.A q.specs.l.length q.specs.cap) rfl
  go_wp2_with fail
  go_loopw [5, 23] (fun _ i wr => ∃ k : Nat, k ≤ q.specs.l.length ∧ i = .int .i64 (k : Int) ∧ Wrote w0.heap.size g ws (((([] ++ [yesT q.head]) ++ [wordT q.object]) ++ [numT q.specs.l.length]) ++ (q.specs.l.take k).flatMap spnW) w1 wr) (fun _ i _ => q.specs.l.length - (intOf i).toNat)
  case atStart => exact ⟨0, by omega, rfl, by simpa using P4⟩
  case round =>
    clear P4
    obtain ⟨k, hk, rfl, P5⟩ := hrel
    have E5 := C1.trans P5.below
    have htl := spn_take_len q.specs.l k hk
    by_cases hlt : k < q.specs.l.length
    · have dec : decide ((k : Int) < (q.specs.l.length : Int)) = true := decide_eq_true (by omega)
      have dec' : decide (k < q.specs.l.length) = true := decide_eq_true hlt
      obtain ⟨b, off, hA, hbs, hc, hc1⟩ := fl_elem2 spC_len ((hm.specs.rv).below E5) hlt
      have HT := Lib.hid (flat_take_succ spnW hlt)
      have hmem := List.getElem_mem hlt
      have hii := HI _ hmem
      have hff := fun (x : Txt) (hx : x ∈ spnW q.specs.l[k]) => hF.mem (hsub x (List.mem_flatMap.2 ⟨_, hmem, hx⟩))
      generalize q.specs.l[k] = x at *
      have x0 := hc (.int .i64 x.frm) rfl
      have x1 := hc1 (.int .i64 x.to) rfl
      clear hc hc1 hmem
      have e9 := Blk.new wr 74 #[.int .i64 x.frm, .int .i64 x.to]
      have F9 := FrW.new P5.ok (.cells #[.int .i64 x.frm, .int .i64 x.to] 74)
      have B9 := below_new wr (.cells #[.int .i64 x.frm, .int .i64 x.to] 74)
      rw [hA]
      go_wp2_with fail
      generalize wr.alloc (.cells #[.int .i64 x.frm, .int .i64 x.to] 74) = v0 at *
      have P9 := P5.call B9
      have T0 : Wrote w0.heap.size g (ws ++ (((([] ++ [yesT q.head]) ++ [wordT q.object]) ++ [numT q.specs.l.length]) ++ (q.specs.l.take k).flatMap spnW)) [] v0 v0 := Wrote.refl P9.ok
      refine (number_calls v0 _ g _ x.frm hii.1 (hS.below ((C1.trans P9.below).trans T0.below)) T0.ok (by simp only [List.length_append, List.length_cons, List.length_nil, htl]; omega)).mono ?_
      rintro e v1 ⟨rfl, Q1⟩
      have T1 := T0.trans Q1
      clear Q1 T0
      have y0_1 := (e9.wr T1 F9).at_ (i := 1) (v := .int .i64 x.to) rfl
      go_wp2_with fail
      refine (number_calls v1 _ g _ x.to hii.2 (hS.below ((C1.trans P9.below).trans T1.below)) T1.ok (by simp only [List.length_append, List.length_cons, List.length_nil, htl]; omega)).mono ?_
      rintro e v2 ⟨rfl, Q2⟩
      have T2 := T1.trans Q2
      clear Q2 T1
      go_wp2_with fail
      have PN := P9.trans T2
      go_roundw
      case rel => exact ⟨k + 1, by omega, by go_num, by rw [HT.out, ← List.append_assoc]; simpa [spnW] using PN⟩
      case measure => simp [intOf]; omega
    · obtain rfl : k = q.specs.l.length := by omega
      have dec : decide ((q.specs.l.length : Int) < (q.specs.l.length : Int)) = false := decide_eq_false (by omega)
      rw [List.take_length] at P5 htl
      have w3e : ∃ w5, w5 = wr := ⟨_, rfl⟩
      obtain ⟨w5, rfl⟩ := w3e
      have c5_3 := (b1.wr P5 F).at_ (i := 3) (v := .slice q.mtch.A q.mtch.l.length q.mtch.cap) rfl
      have c5_4 := (b1.wr P5 F).at_ (i := 4) (v := .slice q.non.A q.non.l.length q.non.cap) rfl
      have c5_5 := (b1.wr P5 F).at_ (i := 5) (v := .bool q.anyM) rfl
      have c5_6 := (b1.wr P5 F).at_ (i := 6) (v := .bool q.anyN) rfl
      have c5_7 := (b1.wr P5 F).at_ (i := 7) (v := .int .i64 q.since) rfl
      have c5_8 := (b1.wr P5 F).at_ (i := 8) (v := .int .i64 q.unless_) rfl
      have c5_9 := (b1.wr P5 F).at_ (i := 9) (v := .string (bstr q.range.text)) rfl
      have c5_10 := (b1.wr P5 F).at_ (i := 10) (v := .bool q.range.weak) rfl
      go_wp2_with fail
      have b8 := Blk.new w5 27 #[.slice q.mtch.A q.mtch.l.length q.mtch.cap, .slice q.non.A q.non.l.length q.non.cap, .bool q.anyM, .bool q.anyN, .int .i64 q.since, .int .i64 q.unless_, .string (bstr q.range.text), .bool q.range.weak]
      have F8 := FrW.new P5.ok (.cells #[.slice q.mtch.A q.mtch.l.length q.mtch.cap, .slice q.non.A q.non.l.length q.non.cap, .bool q.anyM, .bool q.anyN, .int .i64 q.since, .int .i64 q.unless_, .string (bstr q.range.text), .bool q.range.weak] 27)
      have B8 := below_new w5 (.cells #[.slice q.mtch.A q.mtch.l.length q.mtch.cap, .slice q.non.A q.non.l.length q.non.cap, .bool q.anyM, .bool q.anyN, .int .i64 q.since, .int .i64 q.unless_, .string (bstr q.range.text), .bool q.range.weak] 27)
      generalize w5.alloc (.cells #[.slice q.mtch.A q.mtch.l.length q.mtch.cap, .slice q.non.A q.non.l.length q.non.cap, .bool q.anyM, .bool q.anyN, .int .i64 q.since, .int .i64 q.unless_, .string (bstr q.range.text), .bool q.range.weak] 27) = v1 at *
      have P9 := P5.call B8
      have C8 := C1.trans P9.below
      have T1 : Wrote w0.heap.size g (ws ++ (((([] ++ [yesT q.head]) ++ [wordT q.object]) ++ [numT q.specs.l.length]) ++ q.specs.l.flatMap spnW)) [] v1 v1 := Wrote.refl P9.ok
      have G1 := C8
      clear P5
      refine (wtags_calls hS v1 G1 g _ q.mtch.A q.mtch.cap q.mtch.l hm.mtch.rv T1.ok (hF.sub (by simp [reqW, cndW, ReqR.abs, spnsW_len, tagsW_len]; try omega) (fun x hx => by simp [reqW, cndW, ReqR.abs, hx])) (by simp only [List.length_append, List.length_cons, List.length_nil, hSl, tagsW_len]; omega)).mono ?_
      rintro e v2 ⟨rfl, Q2⟩
      have T2 := T1.trans Q2
      have G2 := C8.trans T2.below
      clear Q2 T1 G1
      have d1_1 := (b8.wr T2 F8).at_ (i := 1) (v := .slice q.non.A q.non.l.length q.non.cap) rfl
      go_wp2_with fail
      refine (wtags_calls hS v2 G2 g _ q.non.A q.non.cap q.non.l hm.non.rv T2.ok (hF.sub (by simp [reqW, cndW, ReqR.abs, spnsW_len, tagsW_len]; try omega) (fun x hx => by simp [reqW, cndW, ReqR.abs, hx])) (by simp only [List.length_append, List.length_cons, List.length_nil, hSl, tagsW_len]; omega)).mono ?_
      rintro e v3 ⟨rfl, Q3⟩
      have T3 := T2.trans Q3
      have G3 := C8.trans T3.below
      clear Q3 T2 G2
      have d2_2 := (b8.wr T3 F8).at_ (i := 2) (v := .bool q.anyM) rfl
      go_wp2_with fail
      refine (truth_calls v3 _ g _ q.anyM T3.ok (by simp only [List.length_append, List.length_cons, List.length_nil, hSl, tagsW_len]; omega)).mono ?_
      rintro e v4 ⟨rfl, Q4⟩
      have T4 := T3.trans Q4
      have G4 := C8.trans T4.below
      clear Q4 T3 G3
      have d3_3 := (b8.wr T4 F8).at_ (i := 3) (v := .bool q.anyN) rfl
      go_wp2_with fail
      refine (truth_calls v4 _ g _ q.anyN T4.ok (by simp only [List.length_append, List.length_cons, List.length_nil, hSl, tagsW_len]; omega)).mono ?_
      rintro e v5 ⟨rfl, Q5⟩
      have T5 := T4.trans Q5
      have G5 := C8.trans T5.below
      clear Q5 T4 G4
      have d4_4 := (b8.wr T5 F8).at_ (i := 4) (v := .int .i64 q.since) rfl
      go_wp2_with fail
      refine (number_calls v5 _ g _ q.since hm.i.2.2.2.1 (hS.below G5) T5.ok (by simp only [List.length_append, List.length_cons, List.length_nil, hSl, tagsW_len]; omega)).mono ?_
      rintro e v6 ⟨rfl, Q6⟩
      have T6 := T5.trans Q6
      have G6 := C8.trans T6.below
      clear Q6 T5 G5
      have d5_5 := (b8.wr T6 F8).at_ (i := 5) (v := .int .i64 q.unless_) rfl
      go_wp2_with fail
      refine (number_calls v6 _ g _ q.unless_ hm.i.2.2.2.2 (hS.below G6) T6.ok (by simp only [List.length_append, List.length_cons, List.length_nil, hSl, tagsW_len]; omega)).mono ?_
      rintro e v7 ⟨rfl, Q7⟩
      have T7 := T6.trans Q7
      have G7 := C8.trans T7.below
      clear Q7 T6 G6
      have d6_6 := (b8.wr T7 F8).at_ (i := 6) (v := .string (bstr q.range.text)) rfl
      have d6_7 := (b8.wr T7 F8).at_ (i := 7) (v := .bool q.range.weak) rfl
      go_wp2_with fail
      refine (wtag_calls v7 _ g _ q.range (hF.mem (by simp [reqW, cndW, ReqR.abs])) T7.ok (by simp only [List.length_append, List.length_cons, List.length_nil, hSl, tagsW_len]; omega)).mono ?_
      rintro e v8 ⟨rfl, Q8⟩
      have T8 := T7.trans Q8
      have G8 := C8.trans T8.below
      clear Q8 T7 G7
      go_wp2_with fail
      go_end0
      have R := Wrote.from_ H B1 (P9.trans T8)
      refine ⟨rfl, ?_⟩
      simpa [reqW, cndW, ReqR.abs, spnsW] using R
end Go.Proofs.YtiokbebodblhaaaGreatDoor
