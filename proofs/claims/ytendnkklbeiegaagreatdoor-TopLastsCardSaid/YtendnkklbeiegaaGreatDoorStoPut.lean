/-
  Walk: a slice is put.
-/
import Derived.Test.YtendnkklbeiegaaGreatDoorStoOut
namespace Go.Proofs.YtendnkklbeiegaaGreatDoor
open Go.RowKit Go.Maps StoreP JourP DiskP PageP

theorem StoOK.freeG {w w' : World} {base : Nat} {σ : StoL} {s : SP} {Fr : Nat → Prop} {x' : XMap} (h : StoOK w base σ s) (n1 : ExtOK w' base 128 512 x' Fr) (n2 : x'.M = σ.x.M) (n6 : Kept σ.x.foot w w') (n7 : ∀ k, x'.foot k → σ.x.foot k ∨ w.heap.size ≤ k) :
    ∃ σ', StoOK w' base σ' { s with fr := Fr } ∧ σ'.B = σ.B ∧ σ'.j.y.D = σ.j.y.D ∧ Kept σ.all w w' ∧ (∀ k, σ'.all k → σ.all k ∨ w.heap.size ≤ k) ∧ ∀ k, σ'.all k → σ.all k ∨ x'.foot k := by
  have kf : ∀ {p : Part}, p ≠ .free → ∀ k, σ.foot p k → ¬ σ.x.foot k := fun hp k h1 h2 => hp (h.ap _ .free k h1 h2)
  have kb : ∀ {p : Part} (k : Nat), p ≠ .free → σ.foot p k → w'.heap[k]? = w.heap[k]? := fun k hp h1 => n6.block k (h.lt _ k h1) (kf hp k h1)
  have ha : ∀ k, σ.x.foot k → σ.all k := fun k hk => ⟨.free, hk⟩
  have hs : ∀ p, p ≠ .free → ∀ k, StoL.foot { σ with x := x' } p k → σ.foot p k := fun p hp k hk => by cases p <;> first | exact hk | exact absurd rfl hp
  have hall : ∀ k, StoL.all { σ with x := x' } k → StoL.foot { σ with x := x' } .free k ∨ σ.all k := fun k ⟨p, hk⟩ => by
    by_cases e : p = .free
    · subst e; exact .inl hk
    · exact .inr ⟨p, hs p e k hk⟩
  refine ⟨{ σ with x := x' }, ⟨?_, h.lg.kept n6 (kf (p := .log) (by decide)) fun z hz => (h.bo z hz).mono fun k _ hk => ha k hk, n1, h.nt.of_block (kb (p := .notes) _ (by decide) rfl), h.sl.of_block (kb (p := .slices) _ (by decide) rfl), own_frame h.mk_ fun k hv => kb (p := .marks) k (by decide) hv, ?_, fun z hz => ?_, fun k hk => ?_, h.dk, h.sz, h.ll, h.cnt, fun k hk => Nat.lt_of_lt_of_le (h.xl k hk) n6.size⟩, rfl, rfl, n6.mono fun k _ => ha k, fun k hk => ?_, fun k hk => (hall k hk).symm⟩
  · have e : StoL.cells { σ with x := x' } s.epoch s.puts = σ.cells s.epoch s.puts := by unfold StoL.cells; simp only [n2]
    show Blk w' σ.B _ (StoL.cells { σ with x := x' } s.epoch s.puts)
    rw [e]
    exact (kb (p := .box) _ (by decide) rfl).trans h.bx
  · exact h.ap.change .free h.lt hs n7
  · exact (h.ba z hz).all (n6.mono fun k _ hk => .inl (ha k hk)) fun k hk => hk.elim (fun q => ((hall k q).elim (fun q => (n7 k q).imp (ha k) id) .inl).imp .inl id) fun q => .inl (.inr q)
  · exact (hall k hk).elim (fun q => (n1.foot_lt q).1) (h.lo k)
  · exact (hall k hk).elim (fun q => (n7 k q).imp (ha k) id) .inl
theorem cell_kept' {F : Nat → Prop} {w w' : World} {b i : Nat} {v : Value} (h : w.cell? ⟨b, i, none⟩ = some v) (k : Kept F w w') (hF : ¬ F b) : w'.cell? ⟨b, i, none⟩ = some v := (World.cell?_of_block (w := w) (k.block b (World.block_lt_of_cell? w ⟨b, i, none⟩ h) hF)).trans h
theorem KInvWait (d : Dsk) (at_ : Nat) (kind : UInt8) (mark : Int) (b : List UInt8) : (putD d at_ kind mark b 1).wait.length = d.wait.length + 1 := putD_wait d at_ kind mark b
theorem stays {w : World} {σ σ' : StoL} {B : Nat} (lt : B < w.heap.size) (no : ¬ σ.all B) (f : ∀ k, σ'.all k → σ.all k ∨ w.heap.size ≤ k) : ¬ σ'.all B := fun q => (f _ q).elim no (fun q => by omega)
/-- A sector was taken, and lies in a block of the caller's. -/
def Took (w2 : World) (base : Nat) (σ : StoL) (s : SP) (a g : Nat) (w5 : World) : Prop :=
  FrA s.fr a ∧ w2.heap.size ≤ g ∧ Blk w5 g 110 #[.int .i64 (a : Int), .int .i64 1] ∧
    ∃ σ', StoOK w5 base σ' { s with fr := fun i => s.fr i ∧ i ≠ a } ∧ σ'.B = σ.B ∧ σ'.j.y.D = σ.j.y.D ∧ Kept σ.all w2 w5 ∧ (∀ k, σ'.all k → σ.all k ∨ w2.heap.size ≤ k) ∧ ¬ σ'.all g
theorem tookA {w2 w4 : World} {base a : Nat} {σ : StoL} {s : SP} (h : StoOK w2 base σ s) (ha : FrA s.fr a) (N : NextX w2.drew base 128 512 σ.x (fun i => s.fr i ∧ i ≠ a) w4) :
    Took w2 base σ s a w4.heap.size (w4.alloc (.cells #[.int .i64 (a : Int), .int .i64 1] 110)) := by
  obtain ⟨x', e1, e2, e3, e4⟩ := N
  have hz : w2.heap.size ≤ w4.heap.size := e3.size
  have B : Below w4.heap.size w4 (w4.alloc (.cells #[.int .i64 (a : Int), .int .i64 1] 110)) := (Below.refl _ _).alloc (Nat.le_refl _) _
  have k3 : Kept σ.x.foot w2 w4 := (Kept.of_below (Below.refl _ w2).drew _).trans e3
  obtain ⟨σ', q1, q2, q3, q4, q5, q6⟩ := h.freeG (e1.below B) e2 (k3.trans (Kept.of_below B _)) e4
  refine ⟨ha, hz, Blk.new _ _ _, σ', q1, q2, q3, q4, q5, fun q => ?_⟩
  rcases q6 _ q with q | q
  · have := h.all_lt q; omega
  · have := (e1.foot_lt q).2; omega
theorem tookB {w2 w4 : World} {base a : Nat} {σ : StoL} {s : SP} (h : StoOK w2 base σ s) (ha : FrA s.fr a) (N : NextX (w2.alloc (.cells #[.int .i64 0, .int .i64 0] 110)).drew base 128 512 σ.x (fun i => s.fr i ∧ i ≠ a) w4) :
    Blk w4 w2.heap.size 110 #[.int .i64 0, .int .i64 0] ∧ Took w2 base σ s a w2.heap.size ((w4.setCell ⟨w2.heap.size, 0, none⟩ (.int .i64 (a : Int))).setCell ⟨w2.heap.size, 1, none⟩ (.int .i64 1)) := by
  obtain ⟨x', e1, e2, e3, e4⟩ := N
  have B : Below w2.heap.size w2 (w2.alloc (.cells #[.int .i64 0, .int .i64 0] 110)).drew := ((Below.refl _ w2).alloc (Nat.le_refl _) _).drew
  have nx : ¬ σ.x.foot w2.heap.size := fun q => Nat.lt_irrefl _ (h.lt .free _ q)
  have bz0 : Blk (w2.alloc (.cells #[.int .i64 0, .int .i64 0] 110)).drew w2.heap.size 110 #[.int .i64 0, .int .i64 0] := Blk.new w2 _ _
  have bz : Blk w4 w2.heap.size 110 #[.int .i64 0, .int .i64 0] := (e3.block _ bz0.lt nx).trans bz0
  have nx' : ¬ x'.foot w2.heap.size := fun q => (e4 _ q).elim nx fun q => by have := bz0.lt; omega
  have K : Kept (fun k => k = w2.heap.size) w4 ((w4.setCell ⟨w2.heap.size, 0, none⟩ (.int .i64 (a : Int))).setCell ⟨w2.heap.size, 1, none⟩ (.int .i64 1)) := ((Kept.refl (fun k => k = w2.heap.size) w4).setCell (p := ⟨w2.heap.size, 0, none⟩) (.inl rfl) _).setCell (p := ⟨w2.heap.size, 1, none⟩) (.inl rfl) _
  obtain ⟨σ', q1, q2, q3, q4, q5, q6⟩ := h.freeG (e1.kept K fun k hk e => nx' (e ▸ hk)) e2 ((((Kept.of_below B _).trans e3).setCell (p := ⟨w2.heap.size, 0, none⟩) (.inr (Nat.le_refl _)) _).setCell (p := ⟨w2.heap.size, 1, none⟩) (.inr (Nat.le_refl _)) _) fun k hk => (e4 k hk).imp id fun q => Nat.le_trans B.size q
  refine ⟨bz, ha, Nat.le_refl _, (bz.set_ 0 _).set_ 1 _, σ', q1, q2, q3, q4, q5, fun q => ?_⟩
  rcases q6 _ q with q | q
  · have := h.all_lt q; omega
  · exact nx' q
def RetPutS (w : World) (base : Nat) (σ : StoL) (s : SP) (n : Nm) (b : List UInt8) (e : Ending) (w' : World) : Prop :=
  ∃ a : Nat, FrA s.fr a ∧ e = .returned (.int .i64 0) ∧ NextS w base σ { s with st := s.st.heed (.put n ⟨a, b.length, s.p.e * 1048576 + putsN s⟩), fr := fun i => s.fr i ∧ i ≠ a, epoch := s.p.e, puts := putsN s, many := s.many + 1, p := s.p.addS 128 (StoreP.Act.put n ⟨a, b.length, s.p.e * 1048576 + putsN s⟩).toRec, d := addDS 128 s.p (putD s.d a 83 ((s.p.e * 1048576 + putsN s : Nat) : Int) b 1) (StoreP.Act.put n ⟨a, b.length, s.p.e * 1048576 + putsN s⟩).toRec } w'
set_option maxRecDepth 100000 in
set_option maxHeartbeats 1600000 in
theorem put_calls (σ : StoL) (s : SP) (n : Nm) (hn : okN n) (hx : s.st.sl n = none) (b : List UInt8) (hb1 : 1 ≤ b.length) (hb4 : b.length ≤ 4) (Ab : Option Addr) (cap : Nat) (hc : b.length ≤ cap) (hcap : cap ≤ 9223372036854775807) (w : World) (base : Nat) (h : StoOK w base σ s) (hG : Glob w base) (hR : RVF w σ.all Ab (cB b))
    (hE : ∀ x : Slot, 128 ≤ x.at_ → x.at_ < 512 → x.len = b.length → x.mark = s.p.e * 1048576 + putsN s → addE 128 s.p (StoreP.Act.put n x).toRec = 0) (hw : s.d.wait.length ≤ 50000) (hm : s.many ≤ 999) (hpu : s.puts ≤ 100000) (hpe : s.p.e ≤ 1000) (hep : s.epoch ≤ 1000) (hbo : s.p.b + s.p.half ≤ 128 ∧ s.p.o + s.p.half ≤ 128) (hfe : ∃ i j, s.fr i ∧ s.fr j ∧ i < j) (hfr : ∀ i, s.fr i → 128 ≤ i ∧ i < 512) :
    Calls Tryz.prog 22 #[.pointer (some ⟨σ.B, 0, none⟩), nmV n, .slice Ab b.length cap] w (RetPutS w base σ s n b) := by
  have hcn := h.cnt
  obtain ⟨hn1, hn2⟩ := id hn
  have RC0 := fun w' => right_sto_calls (n.1 : Int) w' (by omega) (by omega)
  have RC1 := fun w' => right_sto_calls (n.2 : Int) w' (by omega) (by omega)
  have d1 : decide ((b.length : Int) < 1) = false := decide_eq_false (by omega)
  have d1' : decide (b.length < 1) = false := decide_eq_false (by omega)
  have d2 : decide (1048576 < (b.length : Int)) = false := decide_eq_false (by omega)
  have d2' : decide (1048576 < b.length) = false := decide_eq_false (by omega)
  have B1 : Below w.heap.size w ((w.alloc (.cells #[.pointer (some ⟨σ.B, 0, none⟩)] 31)).alloc (.cells #[.int .i64 (n.1 : Int), .int .i64 (n.2 : Int)] 40)) := ((Below.refl _ _).alloc (Nat.le_refl _) _).alloc (by simp) _
  have b1 : Boxed ((w.alloc (.cells #[.pointer (some ⟨σ.B, 0, none⟩)] 31)).alloc (.cells #[.int .i64 (n.1 : Int), .int .i64 (n.2 : Int)] 40)) w.heap.size 31 (.pointer (some ⟨σ.B, 0, none⟩)) := (Boxed.new w _ _).alloc _
  have b2 := Blk.new (w.alloc (.cells #[.pointer (some ⟨σ.B, 0, none⟩)] 31)) 40 #[.int .i64 (n.1 : Int), .int .i64 (n.2 : Int)]
  have s1 : ((w.alloc (.cells #[.pointer (some ⟨σ.B, 0, none⟩)] 31)).alloc (.cells #[.int .i64 (n.1 : Int), .int .i64 (n.2 : Int)] 40)).heap.size = w.heap.size + 2 := by simp
  rw [World.size_alloc] at b2
  unfold nmV
  have n0 : ((w.alloc (.cells #[.pointer (some ⟨σ.B, 0, none⟩)] 31)).alloc (.cells #[.int .i64 (n.1 : Int), .int .i64 (n.2 : Int)] 40)).cell? ⟨w.heap.size + 1, 0, none⟩ = some (.int .i64 (n.1 : Int)) := b2.at_ (i := 0) rfl
  have n1 : ((w.alloc (.cells #[.pointer (some ⟨σ.B, 0, none⟩)] 31)).alloc (.cells #[.int .i64 (n.1 : Int), .int .i64 (n.2 : Int)] 40)).cell? ⟨w.heap.size + 1, 1, none⟩ = some (.int .i64 (n.2 : Int)) := b2.at_ (i := 1) rfl
  go_enter Tryz.func22, Tryz.ntmps22
  go_wp2_with (go_at_call 56; first | (refine (RC0 _).mono ?_; rintro e w3 ⟨rfl, rfl⟩) | (refine (RC1 _).mono ?_; rintro e w3 ⟨rfl, rfl⟩))
  clear n0 n1 RC0 RC1 d1 d1' d2 d2'
  revert B1 b1 b2 s1
  generalize ((w.alloc (.cells #[.pointer (some ⟨σ.B, 0, none⟩)] 31)).alloc (.cells #[.int .i64 (n.1 : Int), .int .i64 (n.2 : Int)] 40)) = w1
  intro B1 b1 b2 s1
  have h1 := h.below B1
  have hl := fun W' (b : Below w1.heap.size w1 W') => sl_run (h1.below b) hn
  simp only [hx, Option.map_none, Option.getD_none, Option.isSome_none] at hl
  have HS : Hid (∀ W', Below w1.heap.size w1 W' → (W'.cell? ⟨w.heap.size, 0, none⟩ = some (.pointer (some ⟨σ.B, 0, none⟩)) ∧ W'.cell? ⟨σ.B, 5, none⟩ = some (.map (some σ.M)) ∧ W'.cell? ⟨w.heap.size + 1, 0, none⟩ = some (.int .i64 (n.1 : Int)) ∧ W'.cell? ⟨w.heap.size + 1, 1, none⟩ = some (.int .i64 (n.2 : Int)) ∧ (Instr.lookup 95 (.map (some σ.M)) (.agg #[.int .i64 (n.1 : Int), .int .i64 (n.2 : Int)]) true).run Tryz.prog W' = .ok (.tuple #[.agg #[.int .i64 0, .int .i64 0, .int .i64 0, .int .i64 0], .bool false]) W')) := fun W' b => ⟨cell_bel b b1.cell, cell_bel b (h1.bx.at_ (i := 5) rfl), cell_bel b (b2.at_ (i := 0) rfl), cell_bel b (b2.at_ (i := 1) rfl), hl W' b⟩
  have hx' : ((s.st.sl n).map slotV).isSome = false := by rw [hx]; rfl
  refine wp_mono (Q := fun e a' w' => match e with
    | .normal => a' = { tmps := #[.pointer (some ⟨σ.B, 0, none⟩), .agg #[.int .i64 (n.1 : Int), .int .i64 (n.2 : Int)], .slice Ab b.length cap, .pointer (some ⟨w.heap.size, 0, none⟩), .pointer (some ⟨w.heap.size + 1, 0, none⟩), undef, .int .i64 0, .pointer (some ⟨w.heap.size + 2, 0, none⟩), .bool false, undef, undef, undef, undef, .pointer (some ⟨σ.B, 0, none⟩), .bool false, .pointer (some ⟨w.heap.size + 1, 0, none⟩), .int .i64 (n.1 : Int), .bool true, .bool false, .bool false, .pointer (some ⟨w.heap.size + 1, 1, none⟩), .int .i64 (n.2 : Int), .bool true, .bool false, .bool false, .bool false, .slice Ab b.length cap, .int .i64 (b.length : Int), .bool false, .bool false, .bool false, .slice Ab b.length cap, .int .i64 (b.length : Int), .bool false, .bool false, .tuple #[.agg #[.int .i64 0, .int .i64 0, .int .i64 0, .int .i64 0], .bool false], .pointer (some ⟨σ.B, 0, none⟩), .pointer (some ⟨σ.B, 0, none⟩), .pointer (some ⟨σ.B, 5, none⟩), .map (some σ.M), .agg #[.int .i64 (n.1 : Int), .int .i64 (n.2 : Int)], .tuple #[.agg #[.int .i64 0, .int .i64 0, .int .i64 0, .int .i64 0], .bool false], .agg #[.int .i64 0, .int .i64 0, .int .i64 0, .int .i64 0], .bool false, undef, undef, undef, undef, undef, undef, undef, undef, undef, undef, undef, undef, undef, undef, undef, undef, undef, undef, undef, undef, undef, undef, undef, undef, undef, undef, undef, undef, undef, undef, undef, undef, undef, undef, undef, undef, undef, undef, undef, undef, undef, undef, undef, undef, undef, undef, undef, undef, undef, undef, undef, undef, undef, undef, undef, undef, undef, undef, undef, undef, undef, undef, undef, undef], defers := [] } ∧ w' = (w1.alloc (.cells #[.int .i64 0, .int .i64 0, .int .i64 0, .int .i64 0] 112)).drew
    | _ => False) ?_ ?_
  · clear hl hx h h1
    go_region_held (fun wq => wq.cell? ⟨w.heap.size, 0, none⟩ = some (.pointer (some ⟨σ.B, 0, none⟩)) ∧ wq.cell? ⟨σ.B, 5, none⟩ = some (.map (some σ.M)) ∧ wq.cell? ⟨w.heap.size + 1, 0, none⟩ = some (.int .i64 (n.1 : Int)) ∧ wq.cell? ⟨w.heap.size + 1, 1, none⟩ = some (.int .i64 (n.2 : Int)) ∧ (Instr.lookup 95 (.map (some σ.M)) (.agg #[.int .i64 (n.1 : Int), .int .i64 (n.2 : Int)]) true).run Tryz.prog wq = .ok (.tuple #[.agg #[.int .i64 0, .int .i64 0, .int .i64 0, .int .i64 0], .bool false]) wq)
      (exact HS.out _ (by repeat' (first | exact Below.refl _ _ | refine Below.drew ?_ | refine Below.alloc ?_ (by first | (simp; done) | (simp; omega)) _ | refine Below.setCell ?_ (by first | (simp; done) | (simp; omega)) _))) (fail)
    all_goals exact ⟨rfl, rfl⟩
  · rintro (_ | _ | _ | _ | _ | _) a' w2 hq
    case normal =>
      obtain ⟨rfl, rfl⟩ := hq
      have B2 : Below w1.heap.size w1 (w1.alloc (.cells #[.int .i64 0, .int .i64 0, .int .i64 0, .int .i64 0] 112)).drew := ((Below.refl _ w1).alloc (Nat.le_refl _) _).drew
      have hz2 : (w1.alloc (.cells #[.int .i64 0, .int .i64 0, .int .i64 0, .int .i64 0] 112)).drew.heap.size = w.heap.size + 3 := by show (w1.alloc _).heap.size = _; rw [World.size_alloc, s1]
      revert B2 hz2
      generalize (w1.alloc (.cells #[.int .i64 0, .int .i64 0, .int .i64 0, .int .i64 0] 112)).drew = w2
      intro B2 hz2
      have h2 := h1.below B2
      have b12 : Boxed w2 w.heap.size 31 (.pointer (some ⟨σ.B, 0, none⟩)) := (B2.block _ b1.lt).trans b1
      have b22 := b2.below B2 b2.lt
      have hG2 := hG.bel (B1.trans (B2.mono B1.size)) h.base_le
      have hR2 : RVF w2 σ.all Ab (cB b) := hR.kept (Kept.of_below (B1.trans (B2.mono B1.size)) _)
      clear HS hl b1 b2 h1 hG hR
      go_upto_region 8 with fail
      have TC := fun W' (q : Below w2.heap.size w2 W') => xTake_calls σ.x 128 512 s.fr W' base ((h2.below q).fr) hfe
      have PC := fun w' => pneed_calls 128 (b.length : Int) w'
      rw [need_one (by omega : b.length ≤ 110)] at PC
      have S8 : ∀ W', Below w2.heap.size w2 W' → (W'.cell? ⟨w.heap.size, 0, none⟩ = some (.pointer (some ⟨σ.B, 0, none⟩)) ∧ W'.cell? ⟨σ.B, 3, none⟩ = some (.pointer (some ⟨σ.x.M, 0, none⟩)) ∧ W'.cell? ⟨σ.B, 1, none⟩ = some (.int .i64 128)) := fun W' q => ⟨cell_bel q b12.cell, cell_bel q (h2.bx.at_ (i := 3) rfl), cell_bel q (h2.bx.at_ (i := 1) rfl)⟩
      have HN8 : Hid (∀ W0 W' Fr, Below w2.heap.size w2 W0 → NextX W0 base 128 512 σ.x Fr W' → (W'.cell? ⟨w.heap.size, 0, none⟩ = some (.pointer (some ⟨σ.B, 0, none⟩)) ∧ W'.cell? ⟨σ.B, 3, none⟩ = some (.pointer (some ⟨σ.x.M, 0, none⟩)) ∧ W'.cell? ⟨σ.B, 1, none⟩ = some (.int .i64 128))) := by
        intro W0 W' Fr q N
        obtain ⟨_, _, _, k, _⟩ := N
        have nb : ¬ σ.x.foot w.heap.size := fun q => Nat.lt_irrefl _ (h.lt .free _ q)
        have nB : ¬ σ.x.foot σ.B := h.apart (p := .box) (q := .free) (by decide) σ.B rfl
        have h3 := h2.below q
        have bx : Blk W' σ.B 99 (σ.cells s.epoch s.puts) := (k.block _ h3.bx.lt nB).trans h3.bx
        have b13 : Boxed W0 w.heap.size 31 (.pointer (some ⟨σ.B, 0, none⟩)) := (q.block _ b12.lt).trans b12
        exact ⟨(boxed_kept b13 k nb).cell, bx.at_ (i := 3) rfl, bx.at_ (i := 1) rfl⟩
      have HTA : Hid (∀ w4 a, FrA s.fr a → NextX w2.drew base 128 512 σ.x (fun i => s.fr i ∧ i ≠ a) w4 → Took w2 base σ s a w4.heap.size (w4.alloc (.cells #[.int .i64 (a : Int), .int .i64 1] 110))) := fun w4 a ha N => tookA h2 ha N
      have HTB : Hid (∀ w4 a, FrA s.fr a → NextX (w2.alloc (.cells #[.int .i64 0, .int .i64 0] 110)).drew base 128 512 σ.x (fun i => s.fr i ∧ i ≠ a) w4 → Blk w4 w2.heap.size 110 #[.int .i64 0, .int .i64 0] ∧ Took w2 base σ s a w2.heap.size ((w4.setCell ⟨w2.heap.size, 0, none⟩ (.int .i64 (a : Int))).setCell ⟨w2.heap.size, 1, none⟩ (.int .i64 1))) := fun w4 a ha N => tookB h2 ha N
      have bA : Below w2.heap.size w2 w2.drew := (Below.refl _ w2).drew
      have bB : Below w2.heap.size w2 (w2.alloc (.cells #[.int .i64 0, .int .i64 0] 110)).drew := ((Below.refl _ w2).alloc (Nat.le_refl _) _).drew
      have f2 := S8 w2 (Below.refl _ _)
      have f2d := S8 w2.drew bA
      have f2a := S8 (w2.alloc (.cells #[.int .i64 0, .int .i64 0] 110)).drew bB
      have f2b := S8 (w2.drew.alloc (.cells #[.int .i64 0, .int .i64 0] 110)) (bA.alloc (Nat.le_refl _) _)
      have HH := Lib.hid h
      have HE := Lib.hid hE
      have HX := Lib.hid hx
      have H2 := Lib.hid h2
      have Hw2 := Lib.hid hz2
      clear h hx hx' h2 hE hz2
      refine wp_mono (Q := fun e a' w' => match e with
        | .normal => ∃ (a g : Nat), a' = { tmps := #[.pointer (some ⟨σ.B, 0, none⟩), .agg #[.int .i64 (n.1 : Int), .int .i64 (n.2 : Int)], .slice Ab b.length cap, .pointer (some ⟨w.heap.size, 0, none⟩), .pointer (some ⟨w.heap.size + 1, 0, none⟩), undef, .int .i64 0, .pointer (some ⟨w.heap.size + 2, 0, none⟩), .bool false, .pointer (some ⟨g, 0, none⟩), .int .i64 0, undef, undef, .pointer (some ⟨σ.B, 0, none⟩), .bool false, .pointer (some ⟨w.heap.size + 1, 0, none⟩), .int .i64 (n.1 : Int), .bool true, .bool false, .bool false, .pointer (some ⟨w.heap.size + 1, 1, none⟩), .int .i64 (n.2 : Int), .bool true, .bool false, .bool false, .bool false, .slice Ab b.length cap, .int .i64 (b.length : Int), .bool false, .bool false, .bool false, .slice Ab b.length cap, .int .i64 (b.length : Int), .bool false, .bool false, .tuple #[.agg #[.int .i64 0, .int .i64 0, .int .i64 0, .int .i64 0], .bool false], .pointer (some ⟨σ.B, 0, none⟩), .pointer (some ⟨σ.B, 0, none⟩), .pointer (some ⟨σ.B, 5, none⟩), .map (some σ.M), .agg #[.int .i64 (n.1 : Int), .int .i64 (n.2 : Int)], .tuple #[.agg #[.int .i64 0, .int .i64 0, .int .i64 0, .int .i64 0], .bool false], .agg #[.int .i64 0, .int .i64 0, .int .i64 0, .int .i64 0], .bool false, .bool false, .tuple #[.agg #[.int .i64 (a : Int), .int .i64 1], .int .i64 0], .pointer (some ⟨σ.B, 0, none⟩), .pointer (some ⟨σ.B, 0, none⟩), .pointer (some ⟨σ.B, 3, none⟩), .pointer (some ⟨σ.x.M, 0, none⟩), .pointer (some ⟨σ.B, 0, none⟩), .pointer (some ⟨σ.B, 0, none⟩), .pointer (some ⟨σ.B, 1, none⟩), .int .i64 128, .slice Ab b.length cap, .int .i64 (b.length : Int), .int .i64 1, .tuple #[.agg #[.int .i64 (a : Int), .int .i64 1], .int .i64 0], .agg #[.int .i64 (a : Int), .int .i64 1], .int .i64 0, undef, undef, undef, undef, undef, undef, undef, undef, undef, undef, undef, undef, undef, undef, undef, undef, undef, undef, undef, undef, undef, undef, undef, undef, undef, undef, undef, undef, undef, undef, undef, undef, undef, undef, undef, undef, undef, undef, undef, undef, undef, undef, undef, undef, undef, undef, undef, undef], defers := [] } ∧ Took w2 base σ s a g w'
        | _ => False) ?_ ?_
      · go_region_held (fun wq => wq.cell? ⟨w.heap.size, 0, none⟩ = some (.pointer (some ⟨σ.B, 0, none⟩)) ∧ wq.cell? ⟨σ.B, 3, none⟩ = some (.pointer (some ⟨σ.x.M, 0, none⟩)) ∧ wq.cell? ⟨σ.B, 1, none⟩ = some (.int .i64 128)) (first | (with_reducible exact f2) | (with_reducible exact f2d) | (with_reducible exact f2a) | (with_reducible exact f2b) | (with_reducible exact f4) | (exact f4a _ (by repeat' (first | exact Below.refl _ _ | refine Below.drew ?_ | refine Below.alloc ?_ (by first | (simp; done) | (simp; omega)) _ | refine Below.setCell ?_ (by first | (simp; done) | (simp; omega)) _))) | (exact f4b _ (by repeat' (first | exact Kept.refl _ _ | refine Kept.setCell ?_ (by exact Or.inl rfl) _)))) (first
          | (go_at_call 28; refine (PC _).mono ?_; rintro e w3 ⟨rfl, rfl⟩)
          | (go_at_call 64; (with_reducible refine (TC w2.drew bA).mono ?_); rintro e w4 ⟨a, rfl, hfa, N4⟩; have f4 := HN8.out _ _ _ bA N4; have HT := Lib.hid (HTA.out _ _ hfa N4); clear N4; have f4a : ∀ W', Below w4.heap.size w4 W' → (W'.cell? ⟨w.heap.size, 0, none⟩ = some (.pointer (some ⟨σ.B, 0, none⟩)) ∧ W'.cell? ⟨σ.B, 3, none⟩ = some (.pointer (some ⟨σ.x.M, 0, none⟩)) ∧ W'.cell? ⟨σ.B, 1, none⟩ = some (.int .i64 128)) := fun W' q => ⟨cell_bel q f4.1, cell_bel q f4.2.1, cell_bel q f4.2.2⟩)
          | (go_at_call 64; (with_reducible refine (TC _ bB).mono ?_); rintro e w4 ⟨a, rfl, hfa, N4⟩; have f4 := HN8.out _ _ _ bB N4; have HT := Lib.hid (HTB.out _ _ hfa N4).2; have bz := (HTB.out _ _ hfa N4).1; have u0 : w4.cell? ⟨w2.heap.size, 0, none⟩ = some (.int .i64 0) := bz.at_ (i := 0) rfl; have u1 : w4.cell? ⟨w2.heap.size, 1, none⟩ = some (.int .i64 0) := bz.at_ (i := 1) rfl; have z0 := bz.frozen 0; have z1 := bz.frozen 1; have hB2 : σ.B ≠ w2.heap.size ∧ w.heap.size ≠ w2.heap.size := (by have := H2.out.bx.lt; have := Hw2.out; omega); have f4b : ∀ W', Kept (fun i => i = w2.heap.size) w4 W' → (W'.cell? ⟨w.heap.size, 0, none⟩ = some (.pointer (some ⟨σ.B, 0, none⟩)) ∧ W'.cell? ⟨σ.B, 3, none⟩ = some (.pointer (some ⟨σ.x.M, 0, none⟩)) ∧ W'.cell? ⟨σ.B, 1, none⟩ = some (.int .i64 128)) := fun W' q => ⟨cell_kept' f4.1 q hB2.2, cell_kept' f4.2.1 q hB2.1, cell_kept' f4.2.2 q hB2.1⟩; clear N4))
        all_goals first | exact ⟨a, w4.heap.size, rfl, HT.out⟩ | exact ⟨a, w2.heap.size, rfl, HT.out⟩
      · rintro (_ | _ | _ | _ | _ | _) a' w5 hq
        case normal =>
          obtain ⟨a, g, rfl, hfa, hg2, bg, σ5, h5, e1, e2, k5, n5, ng⟩ := hq
          have no0 : ¬ σ.all w.heap.size := fun q => Nat.lt_irrefl _ (HH.out.all_lt q)
          have no1 : ¬ σ.all (w.heap.size + 1) := fun q => by have := HH.out.all_lt q; omega
          have b15 := boxed_kept b12 k5 no0
          have b25 := blk_kept b22 k5 no1
          have hz := Hw2.out
          have m0 : ¬ σ5.all w.heap.size := stays (w := w2) (by omega) no0 n5
          have m1 : ¬ σ5.all (w.heap.size + 1) := stays (w := w2) (by omega) no1 n5
          have hG5 : Glob w5 base := hG2.below (k5.below (fun k _ hk => HH.out.lo k hk) H2.out.base_le)
          have hR5 : RVF w5 σ5.all Ab (cB b) := hR2.next k5 fun k hk q => (n5 k q).elim id (fun q => by omega)
          obtain ⟨fa1, fa2⟩ := hfr a hfa.1
          have hpn : putsN s ≤ 100001 := by unfold putsN; split <;> omega
          obtain ⟨mk, hmk⟩ : ∃ mk, mk = s.p.e * 1048576 + putsN s := ⟨_, rfl⟩
          have hmk1 : mk ≤ 1000000000000 := by omega
          have NC : Calls Tryz.prog 65 #[.pointer (some ⟨σ.B, 0, none⟩)] w5 (fun e w' => e = .returned (.tuple #[.int .i64 (mk : Int), .int .i64 0]) ∧ NextS w5 base σ5 { s with fr := fun i => s.fr i ∧ i ≠ a, epoch := s.p.e, puts := putsN s } w') := by
            have := next_calls σ5 _ w5 base h5 (by show s.puts ≤ 1000000; omega) (by show s.p.e ≤ 1000000; omega) (by show s.epoch ≤ 1000000; omega)
            rw [e1] at this
            rw [hmk]
            exact this
          have hEx := HE.out ⟨a, b.length, mk⟩ fa1 fa2 rfl hmk
          have HM := Lib.hid hmk
          have E1 := Lib.hid e1
          have c0 := b15.cell
          clear hmk e1 TC PC S8 HN8 HTA HTB f2 f2d f2a f2b bA bB b12 b22 hG2 hR2 hz
          go_upto_region 13 with (go_at_call 65; refine NC.mono ?_; rintro e w6 ⟨rfl, N6⟩; replace N6 := Lib.hid N6)
          obtain ⟨σ6, h6, g1, g2, k6, n6⟩ := N6.out
          have b16 := boxed_kept b15 k6 m0
          have b26 := blk_kept b25 k6 m1
          have bg6 := blk_kept bg k6 ng
          have p0 : ¬ σ6.all w.heap.size := stays b15.lt m0 n6
          have p1 : ¬ σ6.all (w.heap.size + 1) := stays b25.lt m1 n6
          have pg : ¬ σ6.all g := stays bg.lt ng n6
          have hG6 : Glob w6 base := hG5.below (k6.below (fun k _ hk => h5.lo k hk) h5.base_le)
          have hR6 : RVF w6 σ6.all Ab (cB b) := hR5.next k6 fun k hk q => (n6 k q).elim id (fun q => by omega)
          have bd : Below w6.heap.size w6 w6.drew := (Below.refl _ w6).drew
          have G1 : σ6.B = σ.B := g1.trans E1.out
          have cD : w6.cell? ⟨σ6.B, 0, none⟩ = some (.pointer (some ⟨σ6.j.y.D, 0, none⟩)) := h6.bx.at_ (i := 0) rfl
          have hD : σ6.j.y.D = σ.j.y.D := g2.trans e2
          rw [G1, hD] at cD
          have PC := sput_calls σ6 { s with fr := fun i => s.fr i ∧ i ≠ a, epoch := s.p.e, puts := putsN s } a mk b Ab cap w6.drew base (h6.below bd) (hG6.bel bd h6.base_le) fa1 fa2 hbo (hR6.kept (Kept.of_below bd _)) (by omega) hc hcap (by show s.d.wait.length ≤ 60000; omega)
          rw [hD] at PC
          have f1 : w6.drew.cell? ⟨w.heap.size, 0, none⟩ = some (.pointer (some ⟨σ.B, 0, none⟩)) ∧ w6.drew.cell? ⟨σ.B, 0, none⟩ = some (.pointer (some ⟨σ.j.y.D, 0, none⟩)) ∧ w6.drew.cell? ⟨g, 0, none⟩ = some (.int .i64 (a : Int)) := ⟨cell_bel bd b16.cell, cell_bel bd cD, cell_bel bd (bg6.at_ (i := 0) rfl)⟩
          have HS : Hid (∀ w7, NextS w6.drew base σ6 { s with fr := fun i => s.fr i ∧ i ≠ a, epoch := s.p.e, puts := putsN s, d := putD s.d a 83 (mk : Int) b 1 } w7 → w7.cell? ⟨w.heap.size, 0, none⟩ = some (.pointer (some ⟨σ.B, 0, none⟩)) ∧ w7.cell? ⟨σ.B, 0, none⟩ = some (.pointer (some ⟨σ.j.y.D, 0, none⟩)) ∧ w7.cell? ⟨g, 0, none⟩ = some (.int .i64 (a : Int))) := by
            intro w7 N
            obtain ⟨σ7, h7, q1, q2, k7, n7⟩ := N
            have c := h7.bx.at_ (i := 0) (v := .pointer (some ⟨σ7.j.y.D, 0, none⟩)) rfl
            rw [q1, q2, G1, hD] at c
            exact ⟨cell_kept' (cell_bel bd b16.cell) k7 p0, c, cell_kept' (cell_bel bd (bg6.at_ (i := 0) rfl)) k7 pg⟩
          have HG1 := Lib.hid G1
          have E2 := Lib.hid e2
          have G2 := Lib.hid g2
          clear G1 g1 cD c0 NC e2 g2 hD
          go_region_held (fun wq => wq.cell? ⟨w.heap.size, 0, none⟩ = some (.pointer (some ⟨σ.B, 0, none⟩)) ∧ wq.cell? ⟨σ.B, 0, none⟩ = some (.pointer (some ⟨σ.j.y.D, 0, none⟩)) ∧ wq.cell? ⟨g, 0, none⟩ = some (.int .i64 (a : Int))) (first | (with_reducible exact f1) | (with_reducible exact f7)) (first
            | (go_at_call 66; refine PC.mono ?_; rintro e w7 ⟨rfl, N7⟩; have f7 := HS.out _ N7; replace N7 := Lib.hid N7))
          obtain ⟨σ7, h7, q1, q2, k7, n7⟩ := N7.out
          have b17 : Boxed w7 w.heap.size 31 (.pointer (some ⟨σ.B, 0, none⟩)) := boxed_kept (w := w6.drew) b16 k7 p0
          have b27 : Blk w7 (w.heap.size + 1) 40 #[.int .i64 (n.1 : Int), .int .i64 (n.2 : Int)] := blk_kept (w := w6.drew) b26 k7 p1
          have bg7 : Blk w7 g 110 #[.int .i64 (a : Int), .int .i64 1] := blk_kept (w := w6.drew) bg6 k7 pg
          have r0 : ¬ σ7.all w.heap.size := stays (w := w6.drew) b16.lt p0 n7
          have r1 : ¬ σ7.all (w.heap.size + 1) := stays (w := w6.drew) b26.lt p1 n7
          have hG7 : Glob w7 base := (hG6.bel bd h6.base_le).below (k7.below (fun k _ hk => h6.lo k hk) h6.base_le)
          have x0 : w7.cell? ⟨g, 0, none⟩ = some (.int .i64 (a : Int)) := bg7.at_ (i := 0) rfl
          have x1 : w7.cell? ⟨g, 1, none⟩ = some (.int .i64 1) := bg7.at_ (i := 1) rfl
          have Q1 := Lib.hid (q1.trans HG1.out)
          have Q2 := Lib.hid q2
          have hz7 : w.heap.size + 1 < w7.heap.size := b27.lt
          clear q1 q2 PC HS f1 f7
          go_upto_region 18 with fail
          have B8 : Below w7.heap.size w7 (w7.alloc (.cells #[.int .i64 (a : Int), .int .i64 1, .int .i64 (b.length : Int), .int .i64 (mk : Int)] 112)) := (Below.refl _ w7).alloc (Nat.le_refl _) _
          have bs8 : Blk (w7.alloc (.cells #[.int .i64 (a : Int), .int .i64 1, .int .i64 (b.length : Int), .int .i64 (mk : Int)] 112)) w7.heap.size 112 #[.int .i64 (a : Int), .int .i64 1, .int .i64 (b.length : Int), .int .i64 (mk : Int)] := Blk.new w7 _ _
          clear x0 x1
          revert B8 bs8
          generalize w7.alloc (.cells #[.int .i64 (a : Int), .int .i64 1, .int .i64 (b.length : Int), .int .i64 (mk : Int)] 112) = w8
          intro B8 bs8
          have h8 := h7.below B8
          have b18 : Boxed w8 w.heap.size 31 (.pointer (some ⟨σ.B, 0, none⟩)) := (B8.block _ b17.lt).trans b17
          have b28 := b27.below B8 b27.lt
          have hG8 := hG7.bel B8 h7.base_le
          have c0 := b18.cell
          have n0 : w8.cell? ⟨w.heap.size + 1, 0, none⟩ = some (.int .i64 (n.1 : Int)) := b28.at_ (i := 0) rfl
          have n1 : w8.cell? ⟨w.heap.size + 1, 1, none⟩ = some (.int .i64 (n.2 : Int)) := b28.at_ (i := 1) rfl
          have x0 : w8.cell? ⟨w7.heap.size, 0, none⟩ = some (.int .i64 (a : Int)) := bs8.at_ (i := 0) rfl
          have x1 : w8.cell? ⟨w7.heap.size, 1, none⟩ = some (.int .i64 1) := bs8.at_ (i := 1) rfl
          have x2 : w8.cell? ⟨w7.heap.size, 2, none⟩ = some (.int .i64 (b.length : Int)) := bs8.at_ (i := 2) rfl
          have x3 : w8.cell? ⟨w7.heap.size, 3, none⟩ = some (.int .i64 (mk : Int)) := bs8.at_ (i := 3) rfl
          have c5 := h8.bx.at_ (i := 5) (v := .map (some σ7.M)) rfl
          rw [Q1.out] at c5
          have hM := h8.sl
          have hcn8 := h8.cnt
          have hmn : σ7.mn < 9223372036854775807 := by
            have : σ7.nn + σ7.mn + s.st.marks.length ≤ s.many := hcn8
            omega
          obtain ⟨kl, hkl⟩ := keyOf_nm n hn
          go_still_tail 6, (by kernel_rfl)
          change wpList _ _ _ _ _ w8.drew
          with_reducible refine wpList_store_V rfl (.tmp 99) (.tmp 100) (.tmp 101) 95 40 112 rfl nmKeyed Tryz.underlying95 σ7.M σ7.mn (encS s.st.sl) (by kernel_rfl) hM.drew hmn (nmV n) (slotV ⟨a, b.length, mk⟩) kl (by kernel_rfl) (by kernel_rfl) hkl ?_
          intro w9 hM3 gr3
          have e4 : setM (encS s.st.sl) (nmV n) (some (slotV ⟨a, b.length, mk⟩)) = encS (upd s.st.sl n (some ⟨a, b.length, mk⟩)) := encS_set s.st.sl n (some ⟨a, b.length, mk⟩)
          rw [e4] at hM3
          have N9 : NextS w8 base σ7 { s with fr := fun i => s.fr i ∧ i ≠ a, epoch := s.p.e, puts := putsN s, d := putD s.d a 83 (mk : Int) b 1, st := { s.st with sl := upd s.st.sl n (some ⟨a, b.length, mk⟩) }, many := s.many + 1 } w9 :=
            ((h8.below ((Below.refl _ w8).drew)).slices (f := upd s.st.sl n (some ⟨a, b.length, mk⟩)) (many := s.many + 1) (by have : σ7.nn + σ7.mn + s.st.marks.length ≤ s.many := hcn8; show σ7.nn + _ + s.st.marks.length ≤ _; split <;> omega) hM3 gr3).after (Below.refl _ w8).drew
          obtain ⟨σ9, h9, t1, t2, k9, n9⟩ := N9
          have l0 : ¬ σ7.all w7.heap.size := fun q => Nat.lt_irrefl _ (h7.all_lt q)
          have b19 := boxed_kept b18 k9 r0
          have b29 := blk_kept b28 k9 r1
          have bs9 := blk_kept bs8 k9 l0
          have u0 : ¬ σ9.all w.heap.size := stays b18.lt r0 n9
          have u1 : ¬ σ9.all (w.heap.size + 1) := stays b28.lt r1 n9
          have us : ¬ σ9.all w7.heap.size := stays bs8.lt l0 n9
          have hG9 : Glob w9 base := hG8.below (k9.below (fun k _ hk => h7.lo k hk) h8.base_le)
          have SC : ∀ w', Below w9.heap.size w9 w' → Calls Tryz.prog 68 #[.agg #[.int .i64 (a : Int), .int .i64 1, .int .i64 (b.length : Int), .int .i64 (mk : Int)], .agg #[.int .i64 (n.1 : Int), .int .i64 (n.2 : Int)]] w' (RetRec w' 83 (StoreP.Act.put n ⟨a, b.length, mk⟩).toRec.body) := fun w' q => slotrec_calls n ⟨a, b.length, mk⟩ hn ⟨by show a ≤ 1000; omega, by show b.length ≤ 1000; omega, hmk1⟩ w' base (hG9.bel q h9.base_le) (Nat.le_trans h9.base_le q.size)
          obtain ⟨rl, hrl⟩ : ∃ rl, rl = (StoreP.Act.put n ⟨a, b.length, mk⟩).toRec.body := ⟨_, rfl⟩
          have hrec : (StoreP.Act.put n ⟨a, b.length, mk⟩).toRec = ⟨83, rl⟩ := by rw [hrl]; rfl
          rw [← hrl] at SC
          rw [hrec] at hEx
          have T1 : σ9.B = σ.B := t1.trans Q1.out
          have LC : ∀ (fv : Value) (w5 w6 : World) (A : Option Addr) (c : Nat), Below w9.heap.size w9 w5 → Below w5.heap.size w5 w6 → RecOK w6 (fun k => k < w5.heap.size) ⟨83, A, c, rl⟩ →
              Calls Tryz.prog 57 #[.pointer (some ⟨σ.B, 0, none⟩), .agg #[.int .u8 83, .slice A rl.length c], fv] w6 (RetLog w6 base σ9 { s with fr := fun i => s.fr i ∧ i ≠ a, epoch := s.p.e, puts := putsN s, d := putD s.d a 83 (mk : Int) b 1, st := { s.st with sl := upd s.st.sl n (some ⟨a, b.length, mk⟩) }, many := s.many + 1 } ⟨83, rl⟩) := fun fv w5 w6 A c B5 B6 hx => by
            have B7 : Below w9.heap.size w9 w6 := B5.trans (B6.mono B5.size)
            have := logged_calls σ9 _ ⟨83, A, c, rl⟩ fv w6 base (h9.below B7) (hG9.bel B7 h9.base_le) (hx.mono fun k _ hk => by have := h9.all_lt hk; have := B5.size; show k < w5.heap.size; omega) hEx (by show (putD s.d a 83 (mk : Int) b 1).wait.length ≤ 60000; rw [KInvWait]; omega)
            rw [T1] at this
            exact this
          have HS : Hid (∀ W', Below w9.heap.size w9 W' → (W'.cell? ⟨w.heap.size, 0, none⟩ = some (.pointer (some ⟨σ.B, 0, none⟩)) ∧ W'.cell? ⟨w.heap.size + 1, 0, none⟩ = some (.int .i64 (n.1 : Int)) ∧ W'.cell? ⟨w.heap.size + 1, 1, none⟩ = some (.int .i64 (n.2 : Int)) ∧ W'.cell? ⟨w7.heap.size, 0, none⟩ = some (.int .i64 (a : Int)) ∧ W'.cell? ⟨w7.heap.size, 1, none⟩ = some (.int .i64 1) ∧ W'.cell? ⟨w7.heap.size, 2, none⟩ = some (.int .i64 (b.length : Int)) ∧ W'.cell? ⟨w7.heap.size, 3, none⟩ = some (.int .i64 (mk : Int)))) := fun W' q => ⟨cell_bel q b19.cell, cell_bel q (b29.at_ (i := 0) rfl), cell_bel q (b29.at_ (i := 1) rfl), cell_bel q (bs9.at_ (i := 0) rfl), cell_bel q (bs9.at_ (i := 1) rfl), cell_bel q (bs9.at_ (i := 2) rfl), cell_bel q (bs9.at_ (i := 3) rfl)⟩
          have HS2 : Hid (∀ w6 W' S', Below w9.heap.size w9 w6 → NextS w6 base σ9 S' W' → (W'.cell? ⟨w.heap.size, 0, none⟩ = some (.pointer (some ⟨σ.B, 0, none⟩)) ∧ W'.cell? ⟨w.heap.size + 1, 0, none⟩ = some (.int .i64 (n.1 : Int)) ∧ W'.cell? ⟨w.heap.size + 1, 1, none⟩ = some (.int .i64 (n.2 : Int)) ∧ W'.cell? ⟨w7.heap.size, 0, none⟩ = some (.int .i64 (a : Int)) ∧ W'.cell? ⟨w7.heap.size, 1, none⟩ = some (.int .i64 1) ∧ W'.cell? ⟨w7.heap.size, 2, none⟩ = some (.int .i64 (b.length : Int)) ∧ W'.cell? ⟨w7.heap.size, 3, none⟩ = some (.int .i64 (mk : Int)))) := by
            intro w6 W' S' q N
            obtain ⟨_, _, _, _, k, _⟩ := N
            obtain ⟨z0, z1, z2, z3, z4, z5, z6⟩ := HS.out w6 q
            exact ⟨cell_kept' z0 k u0, cell_kept' z1 k u1, cell_kept' z2 k u1, cell_kept' z3 k us, cell_kept' z4 k us, cell_kept' z5 k us, cell_kept' z6 k us⟩
          have f9 := HS.out w9 (Below.refl _ _)
          have f9d := HS.out w9.drew (Below.refl _ _).drew
          have SC9 := SC w9.drew (Below.refl _ _).drew
          have HR := Lib.hid hrec
          have HT1 := Lib.hid T1
          have HT := Lib.hid t1
          have HT2 := Lib.hid t2
          clear hM3 gr3 e4 hM c0 n0 n1 x0 x1 x2 x3 c5 t1 t2 T1 hrec hrl hEx b19 b29 bs9 SC
          go_frame
          go_upto_region 19 with fail
          go_region_held (fun wq => wq.cell? ⟨w.heap.size, 0, none⟩ = some (.pointer (some ⟨σ.B, 0, none⟩)) ∧ wq.cell? ⟨w.heap.size + 1, 0, none⟩ = some (.int .i64 (n.1 : Int)) ∧ wq.cell? ⟨w.heap.size + 1, 1, none⟩ = some (.int .i64 (n.2 : Int)) ∧ wq.cell? ⟨w7.heap.size, 0, none⟩ = some (.int .i64 (a : Int)) ∧ wq.cell? ⟨w7.heap.size, 1, none⟩ = some (.int .i64 1) ∧ wq.cell? ⟨w7.heap.size, 2, none⟩ = some (.int .i64 (b.length : Int)) ∧ wq.cell? ⟨w7.heap.size, 3, none⟩ = some (.int .i64 (mk : Int))) (first | (with_reducible exact f9) | (with_reducible exact f9d) | (with_reducible exact f6) | (with_reducible exact f7)) (first
            | (go_at_call 68; (with_reducible refine SC9.mono ?_); rintro e w10 ⟨⟨rk, rA, rc, rb⟩, hk, hbd, rfl, hr, B10⟩; obtain rfl : rk = 83 := hk; obtain rfl : rl = rb := hbd.symm; have B10' : Below w9.heap.size w9 w10 := ⟨B10.os, B10.tape, B10.output, B10.size, B10.block⟩; have LC5 := fun fv => LC fv w9.drew w10 rA rc (Below.refl _ _).drew B10 hr; have f6 := HS.out _ B10')
            | (go_at_call 57; refine (LC5 _).mono ?_; rintro e w11 ⟨rfl, N11⟩; have f7 := HS2.out _ _ _ B10' N11; replace N11 := Lib.hid N11))
          all_goals
            go_wp2_with fail
            go_ret
            refine ⟨a, hfa, rfl, ?_⟩
            rw [← HM.out, HR.out]
            exact NextS.after B1 (NextS.after B2 (NextS.from_ E1.out E2.out k5 n5 (NextS.from_ (HG1.out.trans E1.out.symm) G2.out k6 n6 (NextS.after bd (NextS.from_ (Q1.out.trans HG1.out.symm) Q2.out k7 n7 (NextS.after B8 (NextS.from_ HT.out HT2.out k9 n9 (NextS.after B10' N11.out))))))))
        all_goals exact hq.elim
    all_goals exact hq.elim
end Go.Proofs.YtendnkklbeiegaaGreatDoor
