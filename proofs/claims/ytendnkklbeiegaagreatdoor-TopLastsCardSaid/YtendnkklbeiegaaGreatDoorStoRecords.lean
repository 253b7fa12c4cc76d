/-
  Walk: the records that make a store.
-/
import Derived.Test.YtendnkklbeiegaaGreatDoorStoOut
import Derived.Test.YtendnkklbeiegaaGreatDoorStoNotes
import Derived.Test.YtendnkklbeiegaaGreatDoorMAQ
import Derived.Test.YtendnkklbeiegaaGreatDoorMAH
import Derived.Deep.RegionHeldLaw
namespace Go.Proofs.YtendnkklbeiegaaGreatDoor
open Go.RowKit Go.Maps StoreP JourP DiskP PageP

/-- So many records, short ones, in a row of their own; of what was there at w2 only the row at v0 was written. -/
def RecsK (w0 w2 : World) (v0 : Value) (m : Nat) (v : Value) (wr : World) : Prop :=
  ∃ rs : List RecR, rs.length = m ∧ (∀ x ∈ rs, x.body.length ≤ 109) ∧ RowR wr w0.heap.size (fun k => k < w0.heap.size) v rs ∧ Below w0.heap.size w0 wr ∧ Kept (fun k => v0.ownBlock = some k) w2 wr ∧ ∀ k, v.ownBlock = some k → v0.ownBlock = some k ∨ w2.heap.size ≤ k
theorem recs_push {w0 w2 w1 w3 w4 : World} {v0 : Value} {rs : List RecR} {x : RecR} {AR : Option Addr} {cR : Nat} {v4 : Value} (hsm : ∀ x ∈ rs, x.body.length ≤ 109) (hrow : RowR w1 w0.heap.size (fun k => k < w0.heap.size) (.slice AR rs.length cR) rs) (bel : Below w0.heap.size w0 w1)
    (kp : Kept (fun k => v0.ownBlock = some k) w2 w1) (kv : ∀ k, (Value.slice AR rs.length cR).ownBlock = some k → v0.ownBlock = some k ∨ w2.heap.size ≤ k)
    (b3 : Below w1.heap.size w1 w3) (o3 : RecOK w3 (fun k => k < w1.heap.size) x) (hx : x.body.length ≤ 109) (own4 : w4.ownsRow w0.heap.size 107 2 v4 (rs.length + 1) (rC rs ++ x.cells)) (gr : w3.grownBy w4 (Value.slice AR rs.length cR).ownBlock) (hv : v4.ownBlock = (Value.slice AR rs.length cR).ownBlock ∨ v4.ownBlock = some w3.heap.size) :
    RecsK w0 w2 v0 (rs.length + 1) v4 w4 := by
  have z0 := bel.size
  have z3 := b3.size
  have z2 := kp.size
  refine ⟨rs ++ [x], by simp, fun y hy => ?_, hrow.pushV b3 (o3.mono fun k _ hk => ?_) own4 gr hv, (bel.trans (b3.mono z0)).grown gr (by omega) fun j hj => (hrow.own.lt j hj).1, (kp.trans (Kept.of_below b3 _)).grown gr kv, fun k hk => ?_⟩
  · rcases List.mem_append.1 hy with hy | hy
    · exact hsm y hy
    · simp at hy; subst hy; exact hx
  · show k < w1.heap.size
    rcases hk with hk | hk
    · exact (hrow.own.lt k hk).2
    · have hk' : k < w0.heap.size := hk
      omega
  · rcases hv with e | e
    · exact kv k (e.symm.trans hk)
    · rw [e] at hk
      exact .inr (by have := Option.some.inj hk; omega)
theorem RecsK.start (w : World) : RecsK w w (.slice none 0 0) 0 (.slice none 0 0) w := ⟨[], rfl, (fun _ h => by cases h), RowR.nil _ _ _, Below.refl _ _, Kept.refl _ _, fun _ h => by simp [Value.ownBlock] at h⟩
/-- From here on. -/
theorem RecsK.anew {w0 w2 wr w3 : World} {v0 v : Value} {m : Nat} (h : RecsK w0 w2 v0 m v wr) (b : Below wr.heap.size wr w3) : RecsK w0 w3 v m v w3 := by
  obtain ⟨rs, h1, h2, h3, h4, _, _⟩ := h
  exact ⟨rs, h1, h2, h3.below b, h4.trans (b.mono h4.size), Kept.refl _ _, fun _ hk => .inl hk⟩
theorem rvf_ofk {w : World} {N n c size : Nat} {e : TypeId} {F : Nat → Prop} {A : Option Addr} {xs : List Value} (h : w.ownsRow N e size (.slice A n c) n xs) (hF : ∀ k, F k → k < N ∨ w.heap.size ≤ k) : RVF w F A xs := by
  intro hne
  have hn : 0 < n := by
    have h1 := h.1
    rcases Nat.eq_zero_or_pos n with h0 | h0
    · rw [h0, Nat.zero_mul] at h1
      exact absurd (List.length_eq_zero_iff.1 h1) hne
    · exact h0
  rcases h.2 with ⟨hv, h0⟩ | ⟨g, cap, cur, hv, _, hh, hnc, _⟩
  · omega
  · injection hv with hA
    subst hA
    have hlt := h.lt g rfl
    refine ⟨g, 0, rfl, hlt.2, fun hf => ?_, fun j u hu => ?_⟩
    · rcases hF g hf with h3 | h3 <;> omega
    · have := h.cells (g := g) rfl j u hu
      rw [add_zero_off] at this
      rwa [Nat.zero_add]
/-- What records tells. -/
def RetRecs (w : World) (m : Nat) (e : Ending) (w' : World) : Prop :=
  ∃ (A : Option Addr) (c : Nat) (ks : List RecR), e = .returned (.slice A ks.length c) ∧ RV w' A (rC ks) ∧ (∀ x ∈ ks, RecOK w' (fun _ => False) x ∧ x.body.length ≤ 109) ∧ ks.length ≤ m ∧ Below w.heap.size w w'
/-- 'm[k]' on a store's notes. -/
theorem nt_run {σ : StoL} {s : SP} {w : World} {base : Nat} (h : StoOK w base σ s) {v : Nat} {t : List UInt8} (hv : v ≤ 1000) (ht : s.st.notes v = some t) :
    (Instr.lookup 94 (.map (some σ.N)) (.int .i64 (v : Int)) false).run Tryz.prog w = .ok (.string (bstr t)) w := by
  have hl := h.nt.look_run (t := 94) (E := 9) ntKeyed Tryz.underlying94 (.string ⟨#[]⟩) (fun w => Tryz.zeroValue9 w) (keyOf_nt v (by omega))
  rw [encN_at, ht] at hl
  exact hl
/-- 'm[k]' on a store's slices. -/
theorem sl_look {σ : StoL} {s : SP} {w : World} {base : Nat} (h : StoOK w base σ s) {n : Nm} {x : Slot} (hn : okN n) (hx : s.st.sl n = some x) :
    (Instr.lookup 95 (.map (some σ.M)) (.agg #[.int .i64 (n.1 : Int), .int .i64 (n.2 : Int)]) false).run Tryz.prog w = .ok (.agg #[.int .i64 (x.at_ : Int), .int .i64 1, .int .i64 (x.len : Int), .int .i64 (x.mark : Int)]) w := by
  obtain ⟨kl, hkl⟩ := keyOf_nm n hn
  have hl := h.sl.look_run (t := 95) (E := 112) nmKeyed Tryz.underlying95 (.agg #[.int .i64 0, .int .i64 0, .int .i64 0, .int .i64 0]) (fun w => Tryz.zeroValue112 w) hkl
  rw [encS_at, hx] at hl
  exact hl
set_option maxRecDepth 100000 in
set_option maxHeartbeats 3200000 in
theorem records_calls (σ : StoL) (s : SP) (w : World) (base : Nat) (h : StoOK w base σ s) (hG : Glob w base) (hb : StB s.st) (hm : s.many ≤ 1000) :
    Calls Tryz.prog 36 #[.pointer (some ⟨σ.B, 0, none⟩)] w (RetRecs w s.many) := by
  have hcn := h.cnt
  have NC := notes_calls σ s w base h (fun v hv => by
    obtain ⟨t, ht⟩ := Option.isSome_iff_exists.1 hv
    exact (hb.notes v t ht).1) hm
  go_enter Tryz.func36, Tryz.ntmps36
  go_wp2_with (go_at_call 45; refine NC.mono ?_; rintro e w1 ⟨A1, c1, vs, rfl, hvs, hvl, rv1, B1⟩)
  have hG1 := hG.bel B1 h.base_le
  have hz1 := B1.size
  clear NC
  go_loopw [3, 13] (fun r i wr => ∃ k : Nat, k ≤ vs.length ∧ i = .int .i64 (k : Int) ∧ RecsK w1 w1 (.slice none 0 0) k r wr) (fun _ i _ => vs.length - (intOf i).toNat)
  case atStart => exact ⟨0, by omega, rfl, RecsK.start _⟩
  case round =>
    obtain ⟨k, hk, rfl, rs, rfl, hsm, hrow, bel, kp, kv⟩ := hrel
    obtain ⟨AR, cR, rfl, _, _⟩ := own_form hrow.own
    by_cases hlt : rs.length < vs.length
    · have dec : decide ((rs.length : Int) < (vs.length : Int)) = true := decide_eq_true (by omega)
      have dec' : decide (rs.length < vs.length) = true := decide_eq_true hlt
      obtain ⟨v, hvk⟩ : ∃ v, vs[rs.length]? = some v := ⟨_, List.getElem?_eq_getElem hlt⟩
      obtain ⟨t, ht⟩ := Option.isSome_iff_exists.1 ((hvs v).1 (List.mem_of_getElem? hvk))
      obtain ⟨hv, htl⟩ := hb.notes v t ht
      obtain ⟨g, off, rfl, hg, hc⟩ := (rv1.below bel) (by intro e; rw [List.map_eq_nil_iff] at e; subst e; simp at hlt)
      have e0 : wr.cell? ⟨g, off + rs.length, none⟩ = some (.int .i64 (v : Int)) := hc rs.length _ (by simp [hvk])
      have BW : Below w.heap.size w wr := B1.trans (bel.mono B1.size)
      have hr := h.below BW
      have hGr := hG1.bel bel (Nat.le_trans h.base_le hz1)
      have hzr := bel.size
      have hs : ∀ x ∈ [(v : Int)], small40 x := by
        intro x hx
        rw [List.mem_singleton.1 hx]
        exact ⟨by omega, by omega⟩
      have hlen := nums_len [(v : Int)] (by simp; omega)
      obtain ⟨ld, hld⟩ : ∃ ld, ld = numsT [(v : Int)] := ⟨_, rfl⟩
      have hldl : ld.length ≤ 14 := by rw [hld]; simpa using hlen
      have hWr : Below wr.heap.size wr (wr.alloc (.cells #[.int .i64 (v : Int)] 2)).drew := ((Below.refl _ wr).alloc (Nat.le_refl _) _).drew
      have WC := words_calls [(v : Int)] (some ⟨wr.heap.size, 0, none⟩) 1 (wr.alloc (.cells #[.int .i64 (v : Int)] 2)).drew base (hGr.bel hWr hr.base_le) (Nat.le_trans hr.base_le hWr.size) (RV.new wr [.int .i64 (v : Int)] 2 (0, 0)) (by simp) hs
      rw [← hld] at WC
      have sz1 : ¬ 9223372036854775807 < (bstr ld).size + 1 := by rw [bstr_size]; omega
      have sz2 : ¬ 9223372036854775807 < (bstr ld).size + 1 + (bstr t).size := by rw [bstr_size, bstr_size]; omega
      obtain ⟨bd, hbd⟩ : ∃ bd, bd = ld ++ 32 :: t := ⟨_, rfl⟩
      have eS : bstr ld ++ (⟨#[32]⟩ : ByteArray) ++ bstr t = bstr bd := by rw [hbd, bstr_lit, bstr_add, bstr_add]; simp
      have hbl : bd.length ≤ 109 := by rw [hbd]; simp; omega
      have RC : ∀ (w5 : World), Calls Tryz.prog 58 #[.int .u8 78, .string (bstr bd)] w5 (RetRec w5 78 bd) := fun w5 => record_calls 78 bd w5 (by omega)
      have HS : Hid (∀ W', Below w1.heap.size w1 W' → (W'.cell? ⟨σ.B, 4, none⟩ = some (.map (some σ.N)) ∧ (Instr.lookup 94 (.map (some σ.N)) (.int .i64 (v : Int)) false).run Tryz.prog W' = .ok (.string (bstr t)) W')) := fun W' q => by
        have h2 := h.below (B1.trans (q.mono B1.size))
        exact ⟨h2.bx.at_ (i := 4) rfl, nt_run h2 hv ht⟩
      have HB : Hid (∀ W', Below wr.heap.size wr W' → Below w1.heap.size w1 W' ∧ W'.ownsRow w1.heap.size 107 2 (.slice AR rs.length cR) rs.length (rC rs)) := fun W' q => ⟨bel.trans (q.mono hzr), own_below hrow.own q fun k hk => (hrow.own.lt k hk).2⟩
      have HP : Hid (∀ (w3 w4 : World) (x : RecR) (v4 : Value), Below wr.heap.size wr w3 → RecOK w3 (fun k => k < wr.heap.size) x → x.body.length ≤ 109 → w4.ownsRow w1.heap.size 107 2 v4 (rs.length + 1) (rC rs ++ x.cells) → w3.grownBy w4 (Value.slice AR rs.length cR).ownBlock → (v4.ownBlock = (Value.slice AR rs.length cR).ownBlock ∨ v4.ownBlock = some w3.heap.size) → RecsK w1 w1 (.slice none 0 0) (rs.length + 1) v4 w4) :=
        fun w3 w4 x v4 b3 o3 hx own4 gr hv4 => recs_push hsm hrow bel kp kv b3 o3 hx own4 gr hv4
      have f1 := HS.out wr bel
      have f1d := HS.out wr.drew bel.drew
      have fa := HS.out (wr.alloc (.cells #[.int .i64 (v : Int)] 2)).drew (HB.out _ hWr).1
      have fb := HS.out (wr.drew.alloc (.cells #[.int .i64 (v : Int)] 2)) (HB.out _ hWr).1
      have hzw : w1.heap.size ≤ wr.heap.size := hzr
      have hrl : rs.length ≤ 1000 := by omega
      clear hr hGr hs hlen hld hrow bel BW hc hsm hbd kp kv
      go_upto_region 5 with fail
      clear e0
      go_region_held_law (fun wq => wq.cell? ⟨σ.B, 4, none⟩ = some (.map (some σ.N)) ∧ (Instr.lookup 94 (.map (some σ.N)) (.int .i64 (v : Int)) false).run Tryz.prog wq = .ok (.string (bstr t)) wq) (first | (with_reducible exact f1) | (with_reducible exact f1d) | (with_reducible exact fa) | (with_reducible exact fb) | (with_reducible exact f5) | (with_reducible exact f6) | (with_reducible exact f6a _) | (with_reducible exact f8)) (first
          | (go_simp; go_at_call 59; refine WC.mono ?_; rintro e w5 ⟨rfl, B5⟩; replace B5 : Below wr.heap.size wr w5 := hWr.trans (B5.mono hWr.size); have f5 := HS.out _ (HB.out _ B5).1)
          | (go_simp; go_at_call 58; refine (RC w5).mono ?_; rintro e w6 ⟨⟨rk, rA, rc, rb⟩, hk, hbd, rfl, hr, B65⟩; obtain rfl : rk = 78 := hk; obtain rfl : bd = rb := hbd.symm; have B6 : Below wr.heap.size wr w6 := B5.trans (B65.mono B5.size); have hr2 := hr.mono (G := fun k => k < wr.heap.size) (fun k _ hk => (by have := B5.size; have hk' : k < wr.heap.size := hk; show k < w5.heap.size; omega)); have f6 := HS.out _ (HB.out _ B6).1; have f6a := fun O => HS.out (w6.alloc O) (HB.out _ (B6.alloc B6.size O)).1)
          | (refine step_append_rv (A := some ⟨w6.heap.size, 0, none⟩) (m := 1) (c := 1) (v := .slice AR rs.length cR) (n := rs.length) (base := w1.heap.size) (xs := rC rs) (news := [.int .u8 78, .slice rA bd.length rc]) el_rec rfl (.tmp 17) (.tmp 30) rfl rfl (HB.out _ (B6.alloc B6.size _)).2 rfl rfl (RV.new w6 [.int .u8 78, .slice rA bd.length rc] 107 (0, 0)) (rC_one [⟨78, rA, rc, bd⟩]) (by unfold maxLen; omega) (by omega) (by have := B6.size; simp; omega) ?_; intro v8 w8 own8 gr8 hv8; obtain ⟨A8, c8, hv8f, _, _⟩ := own_form own8; subst hv8f; have HC := Lib.hid (HP.out _ w8 ⟨78, rA, rc, bd⟩ _ (B6.alloc B6.size _) (hr2.kept (Kept.of_below ((Below.refl _ w6).alloc (Nat.le_refl _) _) (fun _ => False)) fun _ q => q.elim) hbl own8 gr8 hv8); have f8 := HS.out _ (by obtain ⟨_, _, _, _, q, _⟩ := HC.out; exact q)))
      all_goals
        clear HP HS HB WC RC f1 f1d fa fb eS
        go_wp2
        go_roundw
        case rel => exact ⟨rs.length + 1, by omega, by go_num, HC.out⟩
        case measure => simp [intOf]; omega
    · have hE : rs.length = vs.length := by omega
      have dec : decide ((rs.length : Int) < (vs.length : Int)) = false := decide_eq_false (by omega)
      have dec' : decide (rs.length < vs.length) = false := decide_eq_false hlt
      have BW : Below w.heap.size w wr := B1.trans (bel.mono B1.size)
      have NM := names_calls σ s wr base (h.below BW) (fun m hm' => by
        obtain ⟨x, hx⟩ := Option.isSome_iff_exists.1 hm'
        exact (hb.sl m x hx).1) hm
      have HR0 : Hid (RecsK w1 w1 (.slice none 0 0) rs.length (.slice AR rs.length cR) wr) := ⟨rs, rfl, hsm, hrow, bel, kp, kv⟩
      have hown := Lib.hid hrow.own
      have HL1 : Hid (rs.length ≤ σ.nn) := by show _ ≤ _; omega
      clear hsm hrow kp kv hE hvs hvl rv1
      go_wp2_with (go_at_call 13; (with_reducible refine NM.mono ?_); rintro e w2 ⟨A2, c2, ss, rfl, hL, _, hssl, own2, B2⟩)
      have R2 := HR0.out.anew B2
      have rvn : RVF w2 (fun k => (Value.slice AR rs.length cR).ownBlock = some k) A2 (eC ss) := rvf_ofk own2 fun k hk => .inl (hown.out.lt k hk).2
      clear NM HR0 own2 hown B2 BW bel hlt dec dec'
      generalize rs.length = m1 at *
      go_loopw [3, 36] (fun r i wr' => ∃ k : Nat, k ≤ ss.length ∧ i = .int .i64 (k : Int) ∧ RecsK w1 w2 (.slice AR m1 cR) (m1 + k) r wr') (fun _ i _ => ss.length - (intOf i).toNat)
      case atStart => exact ⟨0, by omega, rfl, R2⟩
      case round =>
        clear R2
        obtain ⟨k, hk, rfl, rs, hrl, hsm, hrow, bel, kp, kv⟩ := hrel
        obtain ⟨AQ, cQ, rfl, _, _⟩ := own_form hrow.own
        have HE := Lib.hid hrl
        clear hrl
        have BW : Below w.heap.size w wr := B1.trans (bel.mono B1.size)
        by_cases hlt : k < ss.length
        · have dec : decide ((k : Int) < (ss.length : Int)) = true := decide_eq_true (by omega)
          have dec' : decide (k < ss.length) = true := decide_eq_true hlt
          have hq : (k : Int) < (ss.length : Int) := by omega
          obtain ⟨n, hn⟩ : ∃ n, ss[k]? = some n := ⟨_, List.getElem?_eq_getElem hlt⟩
          obtain ⟨x, hx⟩ := Option.isSome_iff_exists.1 ((hL.2 n).1 (List.mem_of_getElem? hn))
          obtain ⟨hokn, hx1, hx2, hx3, hx4, hx5⟩ := hb.sl n x hx
          obtain ⟨g, off, rfl, hg, e0, e1⟩ := ex_elem (rvn.kept kp).rv hn
          have hrl1 : rs.length ≤ 100000 := by have := HE.out; have := HL1.out; omega
          have xk := Blk.new wr 40 #[.int .i64 (n.1 : Int), .int .i64 (n.2 : Int)]
          have Bx : Below wr.heap.size wr (wr.alloc (.cells #[.int .i64 (n.1 : Int), .int .i64 (n.2 : Int)] 40)) := (Below.refl _ _).alloc (Nat.le_refl _) _
          have szx : (wr.alloc (.cells #[.int .i64 (n.1 : Int), .int .i64 (n.2 : Int)] 40)).heap.size = wr.heap.size + 1 := by simp
          have HHn := Lib.hid (And.intro hokn (And.intro hx (And.intro hx2 (And.intro hx4 hx5))))
          have HHk := Lib.hid (And.intro hsm (And.intro hrow (And.intro bel (And.intro kp (And.intro kv BW)))))
          have Hlt := Lib.hid hlt
          clear hn hx hokn hx1 hx2 hx3 hx4 hx5 hsm hrow bel kp kv BW hlt
          go_upto_region 10 with fail
          clear e0 e1 dec dec' hq
          revert xk Bx szx
          generalize wr.alloc (.cells #[.int .i64 (n.1 : Int), .int .i64 (n.2 : Int)] 40) = wx
          intro xk Bx szx
          obtain ⟨hsm, hrow, bel, kp, kv, BW⟩ := HHk.out
          obtain ⟨hokn, hx, hx2, hx4, hx5⟩ := HHn.out
          have BWx := BW.trans (Bx.mono BW.size)
          have hokS : okS x := ⟨by omega, by omega, hx5⟩
          have SC := slotrec_calls n x hokn hokS wx.drew base (hG.bel BWx.drew h.base_le) (Nat.le_trans h.base_le BWx.size)
          have hnl := nums_len (x.nums n) (nums_small hokn hokS)
          have h5 : (x.nums n).length = 5 := rfl
          obtain ⟨bd, hbd⟩ : ∃ bd, bd = numsT (x.nums n) := ⟨_, rfl⟩
          rw [← hbd] at SC hnl
          have hbl : bd.length ≤ 109 := by omega
          unfold slotV nmV at SC
          have HS : Hid (∀ W', Below w.heap.size w W' → W'.heap[wr.heap.size]? = wx.heap[wr.heap.size]? → (W'.cell? ⟨σ.B, 5, none⟩ = some (.map (some σ.M)) ∧ W'.cell? ⟨wr.heap.size, 0, none⟩ = some (.int .i64 (n.1 : Int)) ∧ W'.cell? ⟨wr.heap.size, 1, none⟩ = some (.int .i64 (n.2 : Int)) ∧ (Instr.lookup 95 (.map (some σ.M)) (.agg #[.int .i64 (n.1 : Int), .int .i64 (n.2 : Int)]) false).run Tryz.prog W' = .ok (.agg #[.int .i64 (x.at_ : Int), .int .i64 1, .int .i64 (x.len : Int), .int .i64 (x.mark : Int)]) W')) := fun W' q1 q2 => by
            have h2 := h.below q1
            have xk' : Blk W' wr.heap.size 40 #[.int .i64 (n.1 : Int), .int .i64 (n.2 : Int)] := q2.trans xk
            exact ⟨h2.bx.at_ (i := 5) rfl, xk'.at_ (i := 0) rfl, xk'.at_ (i := 1) rfl, sl_look h2 hokn hx⟩
          have HX : Hid (∀ W', Below wx.heap.size wx W' → W'.heap[wr.heap.size]? = wx.heap[wr.heap.size]?) := fun W' q => q.block _ (by omega)
          have HB : Hid (∀ W', Below wx.heap.size wx W' → Below w.heap.size w W' ∧ W'.ownsRow w1.heap.size 107 2 (.slice AQ rs.length cQ) rs.length (rC rs)) := fun W' q => ⟨BWx.trans (q.mono BWx.size), own_below hrow.own (Bx.trans (q.mono Bx.size)) fun k hk => (hrow.own.lt k hk).2⟩
          have HP : Hid (∀ (w3 w4 : World) (y : RecR) (v4 : Value), Below wx.heap.size wx w3 → RecOK w3 (fun k => k < wr.heap.size) y → y.body.length ≤ 109 → w4.ownsRow w1.heap.size 107 2 v4 (rs.length + 1) (rC rs ++ y.cells) → w3.grownBy w4 (Value.slice AQ rs.length cQ).ownBlock → (v4.ownBlock = (Value.slice AQ rs.length cQ).ownBlock ∨ v4.ownBlock = some w3.heap.size) →
              RecsK w1 w2 (.slice AR m1 cR) (rs.length + 1) v4 w4 ∧ w4.heap[wr.heap.size]? = wx.heap[wr.heap.size]?) :=
            fun w3 w4 y v4 b3 o3 hy own4 gr hv4 => ⟨recs_push hsm hrow bel kp kv (Bx.trans (b3.mono Bx.size)) o3 hy own4 gr hv4, (gr.block wr.heap.size (by have := b3.size; omega) (fun e => by have := (hrow.own.lt _ e.symm).2; omega)).trans (HX.out _ b3)⟩
          have f1 := HS.out wx BWx rfl
          have f1d := HS.out wx.drew BWx.drew rfl
          have hz1 := bel.size
          clear hsm hrow bel kp kv BW hx hokn xk hbd hnl h5
          go_region_held_law (fun wq => wq.cell? ⟨σ.B, 5, none⟩ = some (.map (some σ.M)) ∧ wq.cell? ⟨wr.heap.size, 0, none⟩ = some (.int .i64 (n.1 : Int)) ∧ wq.cell? ⟨wr.heap.size, 1, none⟩ = some (.int .i64 (n.2 : Int)) ∧ (Instr.lookup 95 (.map (some σ.M)) (.agg #[.int .i64 (n.1 : Int), .int .i64 (n.2 : Int)]) false).run Tryz.prog wq = .ok (.agg #[.int .i64 (x.at_ : Int), .int .i64 1, .int .i64 (x.len : Int), .int .i64 (x.mark : Int)]) wq) (first | (with_reducible exact f1) | (with_reducible exact f1d) | (with_reducible exact f6) | (with_reducible exact f6a _) | (with_reducible exact f8)) (first
            | (go_simp; go_at_call 68; refine SC.mono ?_; rintro e w6 ⟨⟨rk, rA, rc, rb⟩, hkk, hbb, rfl, hr, B65⟩; obtain rfl : rk = 83 := hkk; obtain rfl : bd = rb := hbb.symm; have B6 : Below wx.heap.size wx w6 := ⟨B65.os, B65.tape, B65.output, B65.size, B65.block⟩; have hr2 := hr.mono (G := fun k => k < wr.heap.size) (fun k _ hk => (by have hk' : k < wr.heap.size := hk; show k < wx.heap.size; omega)); have f6 := HS.out _ (HB.out _ B6).1 (HX.out _ B6); have f6a := fun O => HS.out (w6.alloc O) (HB.out _ (B6.alloc B6.size O)).1 (HX.out _ (B6.alloc B6.size O)))
            | (refine step_append_rv (A := some ⟨w6.heap.size, 0, none⟩) (m := 1) (c := 1) (v := .slice AQ rs.length cQ) (n := rs.length) (base := w1.heap.size) (xs := rC rs) (news := [.int .u8 83, .slice rA bd.length rc]) el_rec rfl (.tmp 40) (.tmp 49) rfl rfl (HB.out _ (B6.alloc B6.size _)).2 rfl rfl (RV.new w6 [.int .u8 83, .slice rA bd.length rc] 107 (0, 0)) (rC_one [⟨83, rA, rc, bd⟩]) (by unfold maxLen; omega) (by omega) (by have := B6.size; simp; omega) ?_; intro v8 w8 own8 gr8 hv8; obtain ⟨A8, c8, hv8f, _, _⟩ := own_form own8; subst hv8f; have HC := Lib.hid (HP.out _ w8 ⟨83, rA, rc, bd⟩ _ (B6.alloc B6.size _) (hr2.kept (Kept.of_below ((Below.refl _ w6).alloc (Nat.le_refl _) _) (fun _ => False)) fun _ q => q.elim) hbl own8 gr8 hv8); have f8 := HS.out _ (by obtain ⟨⟨_, _, _, _, q, _⟩, _⟩ := HC.out; exact B1.trans (q.mono B1.size)) HC.out.2))
          all_goals
            clear HP HS HB HX SC f1 f1d
            go_wp2
            go_roundw
            case rel => exact ⟨k + 1, by have := Hlt.out; omega, by go_num, by rw [show m1 + (k + 1) = rs.length + 1 by have := HE.out; omega]; exact HC.out.1⟩
            case measure => have := Hlt.out; simp [intOf]; omega
        · have dec : decide ((k : Int) < (ss.length : Int)) = false := decide_eq_false (by omega)
          have dec' : decide (k < ss.length) = false := decide_eq_false hlt
          have hr := h.below BW
          obtain ⟨Am, cm, hvm, hc1, hc2⟩ := own_form hr.mk_
          have c6 := hr.bx.at_ (i := 6) (v := σ.v) rfl
          rw [hvm] at c6
          have R3 : RecsK w1 wr (.slice AQ rs.length cQ) rs.length (.slice AQ rs.length cQ) wr := RecsK.anew (w2 := w2) (v0 := .slice AR m1 cR) ⟨rs, rfl, hsm, hrow, bel, kp, kv⟩ (Below.refl _ _)
          have HM := Lib.hid hvm
          have HL2 : Hid (rs.length ≤ σ.nn + σ.mn) := by show _ ≤ _; have := HE.out; have := HL1.out; omega
          clear hsm hrow bel kp kv hr hvm BW hL hlt rvn
          go_wp2_with fail
          clear c6 dec dec'
          generalize rs.length = m2 at *
          clear HE
          obtain ⟨wo, hwo⟩ : ∃ wo : World, wo = wr := ⟨_, rfl⟩
          rw [← hwo] at R3 ⊢
          clear hwo
          go_loopw [3, 57] (fun r i wr' => ∃ k : Nat, k ≤ s.st.marks.length ∧ i = .int .i64 (k : Int) ∧ RecsK w1 wo (.slice AQ m2 cQ) (m2 + k) r wr') (fun _ i _ => s.st.marks.length - (intOf i).toNat)
          case atStart => exact ⟨0, by omega, rfl, R3⟩
          case round =>
            clear R3
            obtain ⟨k, hk, rfl, rs, hrl, hsm, hrow, bel, kp, kv⟩ := hrel
            obtain ⟨AS, cS, rfl, _, _⟩ := own_form hrow.own
            have HE := Lib.hid hrl
            clear hrl
            have BW : Below w.heap.size w wr := B1.trans (bel.mono B1.size)
            by_cases hlt : k < s.st.marks.length
            · have dec : decide ((k : Int) < (s.st.marks.length : Int)) = true := decide_eq_true (by omega)
              have dec' : decide (k < s.st.marks.length) = true := decide_eq_true hlt
              have hq : (k : Int) < (s.st.marks.length : Int) := by omega
              have RVm : RV wr Am (s.st.marks.map txV) := RV.of_own (by rw [← HM.out]; exact (h.below BW).mk_)
              obtain ⟨g, off, rfl, hg, e0⟩ := RVm.at_ (k := k) (by simpa using hlt)
              rw [List.getElem_map] at e0
              have hml := hb.marks _ (List.getElem_mem hlt)
              obtain ⟨t, ht⟩ : ∃ t, t = s.st.marks[k] := ⟨_, rfl⟩
              rw [← ht] at e0 hml
              have e0' : wr.cell? ⟨g, off + k, none⟩ = some (.string (bstr t)) := e0
              have RC : Calls Tryz.prog 58 #[.int .u8 77, .string (bstr t)] wr (RetRec wr 77 t) := record_calls 77 t wr (by omega)
              have hrl1 : rs.length ≤ 100000 := by have := HE.out; have := HL2.out; omega
              have HK := Lib.hid (And.intro hsm (And.intro hrow (And.intro bel (And.intro kp kv))))
              have Hlt := Lib.hid hlt
              clear hsm hrow bel kp kv RVm e0 ht hlt
              go_wp2_with fail
              (with_reducible refine RC.mono ?_)
              rintro _ w6 ⟨⟨rk, rA, rc, rb⟩, hkk, hbb, rfl, hr, B6⟩
              obtain rfl : rk = 77 := hkk
              obtain rfl : t = rb := hbb.symm
              have own6 := own_below HK.out.2.1.own B6 fun k hk => (HK.out.2.1.own.lt k hk).2
              have hz1 := HK.out.2.2.1.size
              have hz6 := B6.size
              clear RC e0'
              go_wp2_with ((with_reducible show wpList _ _ _ (⟨some 65, _, _, _, _, _⟩ :: _) _ _); refine wpList_append_rv el_rec rfl (.tmp 61) (.tmp 64) rfl w1.heap.size (.slice AS rs.length cS) rs.length (rC rs) rfl (own6.alloc _) (some ⟨w6.heap.size, 0, none⟩) 1 1 [.int .u8 77, .slice rA t.length rc] rfl rfl (RV.new w6 [.int .u8 77, .slice rA t.length rc] 107 (0, 0)) (rC_one [⟨77, rA, rc, t⟩]) ?f2 ?f3 ?f4 ?_)
              case f2 => unfold maxLen; omega
              case f3 => omega
              case f4 => simp; omega
              intro v8 w8 own8 gr8 hv8
              have b6a : Below wr.heap.size wr (w6.alloc (.cells #[.int .u8 77, .slice rA t.length rc] 107)) := B6.alloc B6.size _
              have HC : Hid (RecsK w1 wo (.slice AQ m2 cQ) (rs.length + 1) v8 w8) := recs_push (x := ⟨77, rA, rc, t⟩) HK.out.1 HK.out.2.1 HK.out.2.2.1 HK.out.2.2.2.1 HK.out.2.2.2.2 b6a (hr.kept (Kept.of_below ((Below.refl _ w6).alloc (Nat.le_refl _) _) (fun _ => False)) fun _ q => q.elim) hml own8 gr8 (by rw [World.size_alloc]; exact hv8)
              clear own8 gr8 hv8 own6 HK hr
              go_wp2
              go_roundw
              case rel => exact ⟨k + 1, by have := Hlt.out; omega, by go_num, by rw [show m2 + (k + 1) = rs.length + 1 by have := HE.out; omega]; exact HC.out⟩
              case measure => have := Hlt.out; simp [intOf]; omega
            · have dec : decide ((k : Int) < (s.st.marks.length : Int)) = false := decide_eq_false (by omega)
              have dec' : decide (k < s.st.marks.length) = false := decide_eq_false hlt
              have HF : Hid (RetRecs w s.many (.returned (.slice AS rs.length cS)) wr) := ⟨AS, cS, rs, rfl, (rvf_ofk (F := fun _ => False) hrow.own fun _ q => q.elim).rv, fun x hx => ⟨(hrow.ks x hx).mono fun _ _ q => q.elim, hsm x hx⟩, by have := HE.out; have := HL2.out; omega, BW⟩
              clear hsm hrow bel kp kv BW hlt
              go_wp2
              go_ret
              exact HF.out
end Go.Proofs.YtendnkklbeiegaaGreatDoor
