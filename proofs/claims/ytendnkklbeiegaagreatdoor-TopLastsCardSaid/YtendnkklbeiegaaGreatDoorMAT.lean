/-
  Walk: a slice that is there already isn't put again.
-/
import Derived.Test.YtendnkklbeiegaaGreatDoorStoPut
import Derived.Test.YtendnkklbeiegaaGreatDoorMAQ
import Derived.Test.YtendnkklbeiegaaGreatDoorMAH
import Derived.Test.YtendnkklbeiegaaGreatDoorStoMark
import Derived.Test.YtendnkklbeiegaaGreatDoorStoNote
namespace Go.Proofs.YtendnkklbeiegaaGreatDoor
open Go.RowKit Go.Maps StoreP JourP DiskP PageP

set_option maxRecDepth 100000 in
set_option maxHeartbeats 1600000 in
theorem put_twice (σ : StoL) (s : SP) (n : Nm) (x : Slot) (hn : okN n) (hx : s.st.sl n = some x) (m : Nat) (hb1 : 1 ≤ m) (hb4 : m ≤ 4) (Ab : Option Addr) (cap : Nat) (w : World) (base : Nat) (h : StoOK w base σ s) :
    Calls Tryz.prog 22 #[.pointer (some ⟨σ.B, 0, none⟩), nmV n, .slice Ab m cap] w fun e w' => e = .returned (.int .i64 7) ∧ Below w.heap.size w w' := by
  obtain ⟨hn1, hn2⟩ := id hn
  have RC0 := fun w' => right_sto_calls (n.1 : Int) w' (by omega) (by omega)
  have RC1 := fun w' => right_sto_calls (n.2 : Int) w' (by omega) (by omega)
  have d1 : decide ((m : Int) < 1) = false := decide_eq_false (by omega)
  have d1' : decide (m < 1) = false := decide_eq_false (by omega)
  have d2 : decide (1048576 < (m : Int)) = false := decide_eq_false (by omega)
  have d2' : decide (1048576 < m) = false := decide_eq_false (by omega)
  have B1 : Below w.heap.size w ((w.alloc (.cells #[.pointer (some ⟨σ.B, 0, none⟩)] 31)).alloc (.cells #[.int .i64 (n.1 : Int), .int .i64 (n.2 : Int)] 40)) := ((Below.refl _ _).alloc (Nat.le_refl _) _).alloc (by simp) _
  have b1 : Boxed ((w.alloc (.cells #[.pointer (some ⟨σ.B, 0, none⟩)] 31)).alloc (.cells #[.int .i64 (n.1 : Int), .int .i64 (n.2 : Int)] 40)) w.heap.size 31 (.pointer (some ⟨σ.B, 0, none⟩)) := (Boxed.new w _ _).alloc _
  have b2 := Blk.new (w.alloc (.cells #[.pointer (some ⟨σ.B, 0, none⟩)] 31)) 40 #[.int .i64 (n.1 : Int), .int .i64 (n.2 : Int)]
  have s1 : ((w.alloc (.cells #[.pointer (some ⟨σ.B, 0, none⟩)] 31)).alloc (.cells #[.int .i64 (n.1 : Int), .int .i64 (n.2 : Int)] 40)).heap.size = w.heap.size + 2 := by simp
  rw [World.size_alloc] at b2
  unfold nmV
  have n0 : ((w.alloc (.cells #[.pointer (some ⟨σ.B, 0, none⟩)] 31)).alloc (.cells #[.int .i64 (n.1 : Int), .int .i64 (n.2 : Int)] 40)).cell? ⟨w.heap.size + 1, 0, none⟩ = some (.int .i64 (n.1 : Int)) := b2.at_ (i := 0) rfl
  have n1 : ((w.alloc (.cells #[.pointer (some ⟨σ.B, 0, none⟩)] 31)).alloc (.cells #[.int .i64 (n.1 : Int), .int .i64 (n.2 : Int)] 40)).cell? ⟨w.heap.size + 1, 1, none⟩ = some (.int .i64 (n.2 : Int)) := b2.at_ (i := 1) rfl
  go_enter Tryz.func22, Tryz.ntmps22
  go_wp2_with (go_at_call 56; first | (refine (RC0 _).mono ?_; rintro e w3 ⟨rfl, rfl⟩) | (refine (RC1 _).mono ?_; rintro e w3 ⟨rfl, rfl⟩))
  clear n0 n1 RC0 RC1 d1 d1' d2 d2'
  revert B1 b1 b2 s1
  generalize ((w.alloc (.cells #[.pointer (some ⟨σ.B, 0, none⟩)] 31)).alloc (.cells #[.int .i64 (n.1 : Int), .int .i64 (n.2 : Int)] 40)) = w1
  intro B1 b1 b2 s1
  have h1 := h.below B1
  have hl := fun W' (b : Below w1.heap.size w1 W') => sl_run (h1.below b) hn
  simp only [hx, Option.map_some, Option.getD_some, Option.isSome_some, slotV] at hl
  have HS : Hid (∀ W', Below w1.heap.size w1 W' → (W'.cell? ⟨w.heap.size, 0, none⟩ = some (.pointer (some ⟨σ.B, 0, none⟩)) ∧ W'.cell? ⟨σ.B, 5, none⟩ = some (.map (some σ.M)) ∧ W'.cell? ⟨w.heap.size + 1, 0, none⟩ = some (.int .i64 (n.1 : Int)) ∧ W'.cell? ⟨w.heap.size + 1, 1, none⟩ = some (.int .i64 (n.2 : Int)) ∧ (Instr.lookup 95 (.map (some σ.M)) (.agg #[.int .i64 (n.1 : Int), .int .i64 (n.2 : Int)]) true).run Tryz.prog W' = .ok (.tuple #[.agg #[.int .i64 (x.at_ : Int), .int .i64 1, .int .i64 (x.len : Int), .int .i64 (x.mark : Int)], .bool true]) W')) := fun W' b => ⟨cell_bel b b1.cell, cell_bel b (h1.bx.at_ (i := 5) rfl), cell_bel b (b2.at_ (i := 0) rfl), cell_bel b (b2.at_ (i := 1) rfl), hl W' b⟩
  have HB := Lib.hid B1
  clear hl hx h h1 b1 b2 B1
  go_region_held (fun wq => wq.cell? ⟨w.heap.size, 0, none⟩ = some (.pointer (some ⟨σ.B, 0, none⟩)) ∧ wq.cell? ⟨σ.B, 5, none⟩ = some (.map (some σ.M)) ∧ wq.cell? ⟨w.heap.size + 1, 0, none⟩ = some (.int .i64 (n.1 : Int)) ∧ wq.cell? ⟨w.heap.size + 1, 1, none⟩ = some (.int .i64 (n.2 : Int)) ∧ (Instr.lookup 95 (.map (some σ.M)) (.agg #[.int .i64 (n.1 : Int), .int .i64 (n.2 : Int)]) true).run Tryz.prog wq = .ok (.tuple #[.agg #[.int .i64 (x.at_ : Int), .int .i64 1, .int .i64 (x.len : Int), .int .i64 (x.mark : Int)], .bool true]) wq)
      (exact HS.out _ (by repeat' (first | exact Below.refl _ _ | refine Below.drew ?_ | refine Below.alloc ?_ (by first | (simp; done) | (simp; omega)) _ | refine Below.setCell ?_ (by first | (simp; done) | (simp; omega)) _))) (fail)
  all_goals
    go_wp2_with fail
    go_ret
    exact ⟨rfl, HB.out.trans ((((Below.refl _ w1).alloc (Nat.le_refl _) _).drew).mono HB.out.size)⟩
end Go.Proofs.YtendnkklbeiegaaGreatDoor
namespace Go.Proofs.YtendnkklbeiegaaGreatDoor
open Go.RowKit Go.Maps StoreP JourP DiskP PageP

inductive KR where
  | s | g | l
  deriving DecidableEq
def putK {α : Type} (f : KR → α) (q : KR) (x : α) : KR → α := fun r => if r = q then x else f r
def KR.idx : KR → Nat
  | .s => 2
  | .g => 3
  | .l => 5
def keptC (D B : Nat) (v : KR → Value) (mk : Nat) : Array Value := #[.pointer (some ⟨D, 0, none⟩), .pointer (some ⟨B, 0, none⟩), v .s, v .g, .int .i64 (mk : Int), v .l]
structure KeepM (w0 wr : World) (base K D B : Nat) (σ : StoL) (s : SP) (v : KR → Value) (L : KR → List Nm) (mk : Nat) : Prop where
  bx : Blk wr K 34 (keptC D B v mk)
  ok : StoOK wr base σ s
  eB : σ.B = B
  eD : σ.j.y.D = D
  rows : ∀ q, wr.ownsRow base 40 2 (v q) (L q).length (eC (L q))
  apK : ¬ σ.all K
  apR : ∀ q k, (v q).ownBlock = some k → ¬ σ.all k ∧ k ≠ K
  apQ : ∀ q q' k, (v q).ownBlock = some k → (v q').ownBlock = some k → q = q'
  xK : s.X K
  xR : ∀ q k, (v q).ownBlock = some k → s.X k
  bel : Below base w0 wr
  hK : base ≤ K
  hb : base ≤ w0.heap.size
section
variable {w0 wr w' : World} {base K D B : Nat} {σ : StoL} {s s' : SP} {v : KR → Value} {L : KR → List Nm} {mk : Nat}
theorem KeepM.below (h : KeepM w0 wr base K D B σ s v L mk) (b : Below wr.heap.size wr w') : KeepM w0 w' base K D B σ s v L mk :=
  { h with bx := h.bx.below b h.bx.lt, ok := h.ok.below b, rows := fun q => own_below (h.rows q) b fun k hk => ((h.rows q).lt k hk).2, bel := h.bel.trans (b.mono (Nat.le_trans h.hb h.bel.size)) }
/-- Behind a call of the store's. -/
theorem KeepM.store (h : KeepM w0 wr base K D B σ s v L mk) (n : NextS wr base σ s' w') (hX : s'.X = s.X) : ∃ σ', KeepM w0 w' base K D B σ' s' v L mk := by
  obtain ⟨σ', n1, n2, n3, n4, n5⟩ := n
  have ne : ∀ k, k < wr.heap.size → ¬ σ.all k → ¬ σ'.all k := fun k hk hn q => (n5 k q).elim hn fun q => by omega
  exact ⟨σ', (n4.block K h.bx.lt h.apK).trans h.bx, n1, n2.trans h.eB, n3.trans h.eD, fun q => own_frame (h.rows q) fun k hk => n4.block k ((h.rows q).lt k hk).2 (h.apR q k hk).1, ne K h.bx.lt h.apK, fun q k hk => ⟨ne k ((h.rows q).lt k hk).2 (h.apR q k hk).1, (h.apR q k hk).2⟩, h.apQ, by rw [hX]; exact h.xK, fun q k hk => by rw [hX]; exact h.xR q k hk,
    h.bel.trans (n4.below (fun k _ hk => h.ok.lo k hk) (Nat.le_trans h.hb h.bel.size)), h.hK, h.hb⟩
/-- A list has grown. -/
theorem KeepM.push (h : KeepM w0 wr base K D B σ s v L mk) (q : KR) {w1 w8 : World} {v8 : Value} {new : List Nm} (b1 : Below wr.heap.size wr w1) (own8 : w8.ownsRow base 40 2 v8 ((L q).length + new.length) (eC (L q) ++ eC new)) (gr : w1.grownBy w8 (v q).ownBlock) (hv : v8.ownBlock = (v q).ownBlock ∨ v8.ownBlock = some w1.heap.size) :
    KeepM w0 (w8.setCell ⟨K, q.idx, none⟩ v8) base K D B σ { s with X := fun k => s.X k ∨ v8.ownBlock = some k } (putK v q v8) (putK L q (L q ++ new)) mk := by
  have h1 := h.below b1
  have hz := b1.size
  have lo1 : ∀ k, (v q).ownBlock = some k → base ≤ k := fun k hk => ((h.rows q).lt k hk).1
  have gb : ∀ k, k < w1.heap.size → (v q).ownBlock ≠ some k → w8.heap[k]? = w1.heap[k]? := fun k hk hn => gr.block k hk fun e => hn e.symm
  have k8 : Kept (fun k => (v q).ownBlock = some k) w1 w8 := (Kept.refl _ w1).grown gr fun k hk => .inl hk
  have nK : ∀ r, (v r).ownBlock ≠ some K := fun r e => (h.apR r K e).2 rfl
  have bx8 : Blk w8 K 34 (keptC D B v mk) := (gb K h1.bx.lt (nK q)).trans h1.bx
  have hne8 : ∀ k, v8.ownBlock = some k → k ≠ K ∧ ¬ σ.all k ∧ ∀ r, r ≠ q → (v r).ownBlock ≠ some k := fun k hk => by
    rcases hv with e | e
    · have hk' := e.symm.trans hk
      exact ⟨(h.apR q k hk').2, (h.apR q k hk').1, fun r hr e2 => hr (h.apQ r q k e2 hk')⟩
    · rw [e] at hk
      obtain rfl := Option.some.inj hk
      exact ⟨by have := h1.bx.lt; omega, fun hq => by have := h1.ok.all_lt hq; omega, fun r _ e2 => by have := ((h1.rows r).lt _ e2).2; omega⟩
  have kc : Kept (fun k => (v q).ownBlock = some k ∨ k = K) w1 (w8.setCell ⟨K, q.idx, none⟩ v8) := (k8.mono fun k _ hk => .inl hk).setCell (p := ⟨K, q.idx, none⟩) (.inl (.inr rfl)) v8
  have rb : ∀ r, r ≠ q → (putK v q v8) r = v r ∧ (putK L q (L q ++ new)) r = L r := fun r hr => ⟨if_neg hr, if_neg hr⟩
  have rq : (putK v q v8) q = v8 ∧ (putK L q (L q ++ new)) q = L q ++ new := ⟨if_pos rfl, if_pos rfl⟩
  refine ⟨?_, ?_, h.eB, h.eD, fun r => ?_, h.apK, fun r k hk => ?_, fun r r' k hk hk' => ?_, .inl h.xK, fun r k hk => ?_, ?_, h.hK, h.hb⟩
  · have := bx8.set_ q.idx v8
    have e : (keptC D B v mk).setIfInBounds q.idx v8 = keptC D B (putK v q v8) mk := by cases q <;> rfl
    rw [e] at this
    exact this
  · have hK8 : ∀ k, σ.all k → k < w1.heap.size ∧ (w8.setCell ⟨K, q.idx, none⟩ v8).heap[k]? = w1.heap[k]? := fun k hk => ⟨h1.ok.all_lt hk, kc.block k (h1.ok.all_lt hk) fun e => e.elim (fun e => (h.apR q k e).1 hk) fun e => h.apK (e ▸ hk)⟩
    have hX : ∀ k, ((v q).ownBlock = some k ∨ k = K) → s.X k := fun k hk => hk.elim (h.xR q k) fun e => e ▸ h.xK
    refine { h1.ok with
      bx := (hK8 _ ⟨.box, rfl⟩).2.trans h1.ok.bx
      lg := h1.ok.lg.kept kc (fun i hi e => e.elim (fun e => (h.apR q i e).1 ⟨.log, hi⟩) fun e => h.apK (e ▸ ⟨.log, hi⟩)) fun z hz' => (h1.ok.ba z hz').mono fun k _ hk => .inr (hX k hk)
      fr := h1.ok.fr.kept kc fun i hi e => e.elim (fun e => (h.apR q i e).1 ⟨.free, hi⟩) fun e => h.apK (e ▸ ⟨.free, hi⟩)
      nt := h1.ok.nt.of_block (hK8 _ ⟨.notes, rfl⟩).2
      sl := h1.ok.sl.of_block (hK8 _ ⟨.slices, rfl⟩).2
      mk_ := own_frame h1.ok.mk_ fun k hk => (hK8 k ⟨.marks, hk⟩).2
      ba := fun z hz' => (h1.ok.ba z hz').all (kc.mono fun k _ hk => .inr (hX k hk)) fun k hk => ?_
      xl := fun k hk => ?_ }
    · rcases hk with hk | hk | hk
      · exact .inl (.inl hk)
      · exact .inl (.inr hk)
      · rcases hv with e | e
        · exact .inl (.inr (h.xR q k (e.symm.trans hk)))
        · rw [e] at hk
          exact .inr (by have := Option.some.inj hk; omega)
    · rcases hk with hk | hk
      · exact Nat.lt_of_lt_of_le (h1.ok.xl k hk) kc.size
      · have := (own8.lt k hk).2
        simpa using this
  · by_cases hr : r = q
    · subst hr
      rw [rq.1, rq.2, List.length_append, eC_append]
      exact own_frame own8 fun k hk => heap_setCell_other _ ⟨K, _, none⟩ k _ (hne8 k hk).1
    · rw [(rb r hr).1, (rb r hr).2]
      exact own_frame (h1.rows r) fun k hk => kc.block k ((h1.rows r).lt k hk).2 fun e => e.elim (fun e => hr (h.apQ r q k hk e)) fun e => (h.apR r k hk).2 e
  · by_cases hr : r = q
    · subst hr
      rw [rq.1] at hk
      exact ⟨(hne8 k hk).2.1, (hne8 k hk).1⟩
    · rw [(rb r hr).1] at hk
      exact h.apR r k hk
  · by_cases hr : r = q
    · by_cases hr' : r' = q
      · rw [hr, hr']
      · subst hr
        rw [rq.1] at hk
        rw [(rb r' hr').1] at hk'
        exact absurd hk' ((hne8 k hk).2.2 r' hr')
    · by_cases hr' : r' = q
      · subst hr'
        rw [rq.1] at hk'
        rw [(rb r hr).1] at hk
        exact absurd hk ((hne8 k hk').2.2 r hr)
      · rw [(rb r hr).1] at hk
        rw [(rb r' hr').1] at hk'
        exact h.apQ r r' k hk hk'
  · by_cases hr : r = q
    · subst hr
      rw [rq.1] at hk
      exact .inr hk
    · rw [(rb r hr).1] at hk
      exact .inl (h.xR r k hk)
  · exact h1.bel.trans (kc.below (fun k _ hk => hk.elim (lo1 k) fun e => e ▸ h.hK) (Nat.le_trans h.hb h1.bel.size))
/-- A mark more is counted. -/
theorem KeepM.mark (h : KeepM w0 wr base K D B σ s v L mk) : KeepM w0 (wr.setCell ⟨K, 4, none⟩ (.int .i64 ((mk + 1 : Nat) : Int))) base K D B σ s v L (mk + 1) := by
  have kc : Kept (fun k => k = K) wr (wr.setCell ⟨K, 4, none⟩ (.int .i64 ((mk + 1 : Nat) : Int))) := (Kept.refl (fun k => k = K) wr).setCell (p := ⟨K, 4, none⟩) (.inl rfl) _
  have hK8 : ∀ k, σ.all k → (wr.setCell ⟨K, 4, none⟩ (.int .i64 ((mk + 1 : Nat) : Int))).heap[k]? = wr.heap[k]? := fun k hk => kc.block k (h.ok.all_lt hk) fun e => h.apK (e ▸ hk)
  refine { h with
    bx := ?_
    ok := { h.ok with
      bx := (hK8 _ ⟨.box, rfl⟩).trans h.ok.bx
      lg := h.ok.lg.kept kc (fun i hi e => h.apK (e ▸ ⟨.log, hi⟩)) fun z hz' => (h.ok.ba z hz').mono fun k _ hk => .inr (hk ▸ h.xK)
      fr := h.ok.fr.kept kc fun i hi e => h.apK (e ▸ ⟨.free, hi⟩)
      nt := h.ok.nt.of_block (hK8 _ ⟨.notes, rfl⟩)
      sl := h.ok.sl.of_block (hK8 _ ⟨.slices, rfl⟩)
      mk_ := own_frame h.ok.mk_ fun k hk => hK8 k ⟨.marks, hk⟩
      ba := fun z hz' => (h.ok.ba z hz').all (kc.mono fun k _ hk => .inr (hk ▸ h.xK)) fun k hk => .inl hk
      xl := fun k hk => Nat.lt_of_lt_of_le (h.ok.xl k hk) kc.size }
    rows := fun r => own_frame (h.rows r) fun k hk => kc.block k ((h.rows r).lt k hk).2 (h.apR r k hk).2
    bel := h.bel.trans (kc.below (fun k _ hk => hk ▸ h.hK) (Nat.le_trans h.hb h.bel.size)) }
  exact h.bx.set_ 4 _
end
end Go.Proofs.YtendnkklbeiegaaGreatDoor
namespace Go.Proofs.YtendnkklbeiegaaGreatDoor
open Go.RowKit Go.Maps StoreP JourP DiskP PageP

theorem KeepP.rex {i lasts : Nat} {s : SP} {l : List StoreP.Act} {sl gone la : List Nm} (h : KeepP i s l lasts sl gone la) (X : Nat → Prop) : KeepP i { s with X := X } l lasts sl gone la :=
  ⟨h.k, h.st, h.p, h.ep, h.puts, h.many, h.len, h.put_in, h.last_in, h.sl_in, h.gone_in, h.small, h.lsl, h.lgone, h.lla⟩
theorem StoOK.invS {w : World} {base : Nat} {σ : StoL} {s : SP} (h : StoOK w base σ s) : InvS s := by
  have := h.lg.inv
  rw [h.dk] at this
  exact this
section
variable {w0 wr : World} {base K D B i lasts mk : Nat} {σ : StoL} {s : SP} {v : KR → Value} {L : KR → List Nm} {l : List StoreP.Act}
theorem keep_note (hM : KeepM w0 wr base K D B σ s v L mk) (hP : KeepP i s l lasts (L .s) (L .g) (L .l)) (hi : i < 40) (hG : Glob w0 base) (n : Nat) (t : List UInt8) (hn : n ≤ 1000) (ht : t.length ≤ 94) :
    Calls Tryz.prog 20 #[.pointer (some ⟨B, 0, none⟩), .int .i64 (n : Int), .string (bstr t)] wr fun e w' => e = .returned (.int .i64 0) ∧ ∃ σ' s' l' lasts', KeepM w0 w' base K D B σ' s' v L mk ∧ KeepP (i + 1) s' l' lasts' (L .s) (L .g) (L .l) := by
  have hJ := hM.ok.invS
  have ha : (StoreP.Act.note n t).ok := ⟨hn, ht⟩
  have hw := hP.wait
  have hw2 := hP.add_wait (by omega) hJ ha
  have hm := hP.many
  have NC := note_calls σ s n t hn (by omega) wr base hM.ok (hG.below hM.bel) (hP.addE (by omega) ha) (by omega) (by omega) (by omega)
  rw [hM.eB] at NC
  refine NC.mono ?_
  rintro e w' ⟨rfl, N⟩
  obtain ⟨σ', hM'⟩ := hM.store N rfl
  exact ⟨rfl, σ', _, _, _, hM', hP.tell (by omega) hJ ha (fun _ _ h => by cases h) (fun _ h => by cases h)⟩
theorem keep_mark (hM : KeepM w0 wr base K D B σ s v L mk) (hP : KeepP i s l lasts (L .s) (L .g) (L .l)) (hi : i < 40) (hG : Glob w0 base) (t : List UInt8) (ht : t.length ≤ 109) :
    Calls Tryz.prog 24 #[.pointer (some ⟨B, 0, none⟩), .string (bstr t)] wr fun e w' => e = .returned (.int .i64 0) ∧ ∃ σ' s' l' lasts', KeepM w0 w' base K D B σ' s' v L mk ∧ KeepP (i + 1) s' l' lasts' (L .s) (L .g) (L .l) := by
  have hJ := hM.ok.invS
  have ha : (StoreP.Act.mark t).ok := ht
  have hw := hP.wait
  have hw2 := hP.add_wait (by omega) hJ ha
  have hw3 : (addDS 128 s.p s.d ⟨77, t⟩).wait.length ≤ 60000 := Nat.le_trans hw2 (by omega)
  have hm := hP.many
  have NC := mark_calls σ s t (by omega) wr base hM.ok (hG.below hM.bel) (hP.addE (by omega) ha) (by omega) hw3 (by omega)
  rw [hM.eB] at NC
  refine NC.mono ?_
  rintro e w' ⟨rfl, N⟩
  obtain ⟨σ', hM'⟩ := hM.store N rfl
  exact ⟨rfl, σ', _, _, _, hM', hP.tell (a := .mark t) (by omega) hJ ha (fun _ _ h => by cases h) (fun _ h => by cases h)⟩
theorem keep_sync (hM : KeepM w0 wr base K D B σ s v L mk) (hP : KeepP i s l lasts (L .s) (L .g) (L .l)) (hi : i < 40) :
    Calls Tryz.prog 25 #[.pointer (some ⟨B, 0, none⟩)] wr fun e w' => e = .returned (.int .i64 0) ∧ ∃ σ' s' lasts', KeepM w0 w' base K D B σ' s' v L mk ∧ KeepP (i + 1) s' l lasts' (L .s) (L .g) (L .l ++ L .s) := by
  have hw := hP.wait
  have NC := sync_calls σ s wr base hM.ok (by omega)
  rw [hM.eB] at NC
  refine NC.mono ?_
  rintro e w' ⟨rfl, N⟩
  obtain ⟨σ', hM'⟩ := hM.store N rfl
  exact ⟨rfl, σ', _, _, hM', hP.sync (by omega)⟩
theorem keep_put_no (hM : KeepM w0 wr base K D B σ s v L mk) (n : Nm) (x : Slot) (hn : ok7 n) (hx : s.st.sl n = some x) (m : Nat) (h1 : 1 ≤ m) (h4 : m ≤ 4) (A : Option Addr) (c : Nat) :
    Calls Tryz.prog 22 #[.pointer (some ⟨B, 0, none⟩), .agg #[.int .i64 (n.1 : Int), .int .i64 (n.2 : Int)], .slice A m c] wr fun e w' => e = .returned (.int .i64 7) ∧ Below wr.heap.size wr w' := by
  have := put_twice σ s n x ⟨by have := hn.1; omega, by have := hn.2; omega⟩ hx m h1 h4 A c wr base hM.ok
  rw [hM.eB] at this
  exact this
theorem keep_put (hM : KeepM w0 wr base K D B σ s v L mk) (hP : KeepP i s l lasts (L .s) (L .g) (L .l)) (hi : i < 40) (hG : Glob w0 base) (n : Nm) (hn : ok7 n) (hx : s.st.sl n = none) (h1 : 1 ≤ (byF n).length) (A : Option Addr) (c : Nat) (hc : (byF n).length ≤ c) (hc2 : c ≤ maxLen) (hR : RVF wr σ.all A (cB (byF n))) :
    Calls Tryz.prog 22 #[.pointer (some ⟨B, 0, none⟩), .agg #[.int .i64 (n.1 : Int), .int .i64 (n.2 : Int)], .slice A (byF n).length c] wr fun e w' => e = .returned (.int .i64 0) ∧ ∃ σ' s' l', KeepM w0 w' base K D B σ' s' v L mk ∧ KeepP (i + 1) s' l' lasts (L .s ++ [n]) (L .g) (L .l) := by
  have hJ := hM.ok.invS
  have hw := hP.wait
  have hm := hP.many
  have hpu := hP.puts
  obtain ⟨q1, q2⟩ := hP.puts_eq
  have hb4 := byF_len n
  have hep : s.epoch ≤ 1000 := by rcases hP.ep with ⟨h, _⟩ | h <;> omega
  have PC := put_calls σ s n ⟨by have := hn.1; omega, by have := hn.2; omega⟩ hx (byF n) h1 hb4 A c hc (by unfold maxLen at hc2; omega) wr base hM.ok (hG.below hM.bel) hR (fun x x1 x2 x3 x4 => hP.addE (by omega) ⟨⟨by have := hn.1; omega, by have := hn.2; omega⟩, x1, x2, by omega, by omega, by omega⟩) (by omega) (by omega) (by omega) (by omega) hep hP.halves (hP.two_free (by omega)) hP.fr_range
  rw [hM.eB] at PC
  refine PC.mono ?_
  rintro e w' ⟨a, ⟨ha, a', ha', hlt⟩, rfl, N⟩
  obtain ⟨σ', hM'⟩ := hM.store N rfl
  exact ⟨rfl, σ', _, _, hM', hP.put (by omega) hJ hn hx h1 ha (by have := (hP.fr_range a' ha').2; omega)⟩
theorem keep_drop_no (hM : KeepM w0 wr base K D B σ s v L mk) (n : Nm) (hn : ok7 n) (hx : s.st.sl n = none) :
    Calls Tryz.prog 26 #[.pointer (some ⟨B, 0, none⟩), .agg #[.int .i64 (n.1 : Int), .int .i64 (n.2 : Int)]] wr fun e w' => e = .returned (.int .i64 6) ∧ Below wr.heap.size wr w' := by
  have := drop_none σ s n ⟨by have := hn.1; omega, by have := hn.2; omega⟩ hx wr base hM.ok
  rw [hM.eB] at this
  exact this
theorem keep_drop (hM : KeepM w0 wr base K D B σ s v L mk) (hP : KeepP i s l lasts (L .s) (L .g) (L .l)) (hi : i < 40) (hG : Glob w0 base) (n : Nm) (x : Slot) (hn : ok7 n) (hx : s.st.sl n = some x) :
    Calls Tryz.prog 26 #[.pointer (some ⟨B, 0, none⟩), .agg #[.int .i64 (n.1 : Int), .int .i64 (n.2 : Int)]] wr fun e w' => e = .returned (.int .i64 0) ∧ ∃ σ' s' l', KeepM w0 w' base K D B σ' s' v L mk ∧ KeepP (i + 1) s' l' lasts (L .s) (L .g ++ [n]) (L .l) := by
  have hJ := hM.ok.invS
  have hw := hP.wait
  have hm := hP.many
  have hokn : okN n := ⟨by have := hn.1; omega, by have := hn.2; omega⟩
  obtain ⟨x1, x2, x3⟩ := hP.slot hx
  obtain ⟨a, _, ha, _⟩ := hP.two_free (by omega)
  have PC := drop_some σ s n x hokn hx wr base hM.ok (hG.below hM.bel) (hP.addE (by omega) hokn) (by omega) (by omega) x1 x2 x3 ⟨a, ha⟩
  rw [hM.eB] at PC
  refine PC.mono ?_
  rintro e w' ⟨rfl, N⟩
  obtain ⟨σ', hM'⟩ := hM.store N rfl
  exact ⟨rfl, σ', _, _, hM', hP.drop (by omega) hJ hx⟩
end
end Go.Proofs.YtendnkklbeiegaaGreatDoor
