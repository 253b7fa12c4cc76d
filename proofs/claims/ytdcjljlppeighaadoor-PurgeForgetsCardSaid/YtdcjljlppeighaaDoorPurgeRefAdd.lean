/-
  The walk of the document's Add.
-/
import Derived.Test.YtdcjljlppeighaaDoorPurgeRefLast
namespace Go.Proofs.YtdcjljlppeighaaDoor
open Go.RowKit PurgeP

theorem info_rline : (Tryd.prog.info? 51).map (fun i => (i.zero, i.size, i.bytes)) = some (some (.agg #[.int .i64 0, .slice none 0 0, .bool false]), 3, 40) := by kernel_rfl
theorem el_rline : El Tryd.prog 26 51 (.agg #[.int .i64 0, .slice none 0 0, .bool false]) 3 40 := ⟨info_parts info_rline, Tryd.underlying26, rfl, by decide⟩
theorem rv_grown {w w6 : World} {g k : Nat} {vs : List Value} {row : Option Nat} (h : RV w (some ⟨g, 0, none⟩) vs) (gr : w.grownBy w6 row) (hr : row = some k) (hk : g ≠ k) : RV w6 (some ⟨g, 0, none⟩) vs := fun hne => by
  obtain ⟨b, off, e, hb, hc⟩ := h hne
  injection e with e
  injection e with e1 e2
  subst e1 e2
  have := gr.block g hb (fun e => hk (Option.some.inj (e.trans hr)))
  exact ⟨g, 0, rfl, Nat.lt_of_lt_of_le hb gr.size, fun j v hj => (World.cell?_of_block (w := w) this).trans (hc j v hj)⟩
theorem rv_at (w : World) (vs : List Value) (t : TypeId) (a : Nat) (ha : w.heap.size = a) : RV (w.alloc (.cells vs.toArray t)) (some ⟨a, 0, none⟩) vs := by
  subst ha
  exact RV.new w vs t (0, 0)
theorem own_emptyA (w : World) {base : Nat} (e : TypeId) (size a : Nat) (ha : w.heap.size = a) (hb : base ≤ a) : (w.alloc (.cells #[] e)).ownsRow base e size (.slice (some ⟨a, 0, none⟩) 0 0) 0 [] := by
  subst ha
  exact own_empty w e size hb
/-- A row of the call's own reads as its cells, apart from what was there. -/
theorem own_rvfN {w : World} {N n c s : Nat} {e : TypeId} {F : Nat → Prop} {A : Option Addr} {xs : List Value} (h : w.ownsRow N e s (.slice A n c) n xs) (hF : ∀ k, F k → k < N ∨ w.heap.size ≤ k) : RVF w F A xs := fun hne => by
  have hl := h.1
  rcases h.2 with ⟨_, h0⟩ | ⟨g, cap, cur, e1, h1, h2, _⟩
  · exfalso
    subst h0
    rw [Nat.zero_mul] at hl
    exact hne (List.length_eq_zero_iff.1 hl)
  · injection e1 with e1 _ e3
    subst e1 e3
    have hlt := lt_of_block h2
    refine ⟨g, 0, rfl, hlt, fun hf => by rcases hF g hf with h3 | h3 <;> omega, fun j v hj => ?_⟩
    rw [Nat.zero_add, h.cellAt _ (by rw [← hl]; exact (List.getElem?_eq_some_iff.1 hj).1)]
    exact hj
theorem RefOK.push {w w5 w7 : World} {F : Nat → Prop} {z : RefR} (hF : ∀ k, F k → k < w.heap.size) (h : RefOK w F z) (b5 : Below w.heap.size w w5) {x : LnR} {N1 : Nat} (hN : w.heap.size ≤ N1) (o5 : w5.ownsRow N1 9 1 (.slice x.A x.keys.length x.cap) x.keys.length (cS x.keys))
    (b7 : Below w5.heap.size w5 w7) {v : Value} (o7 : w7.ownsRow w5.heap.size 51 3 v (z.ls.length + 1) (lC z.ls ++ x.cells)) (hx : z.abs.nextL x.keys x.hard = x.abs) (hr : rightB x.abs = true) :
    NextR w F z (z.abs.addS x.keys x.hard) (w7.setCell ⟨z.M, 0, none⟩ v) := by
  have h5 := h.below b5
  have h7 := h5.below b7
  obtain ⟨A, c, rfl, hnc, hcm⟩ := own_form o7
  unfold maxLen at hcm
  have hM := h.bk.lt
  have hs5 := b5.size
  have K7 : Kept (fun k => k = z.M) w7 (w7.setCell ⟨z.M, 0, none⟩ (.slice A (z.ls.length + 1) c)) := (Kept.refl (fun k => k = z.M) w7).setCell (p := ⟨z.M, 0, none⟩) (.inl rfl) _
  have hG : ∀ k, (k = z.M ∨ F k) → k < w.heap.size := fun k hk => hk.elim (fun e => e ▸ hM) (hF k)
  have habs : RefR.abs ⟨z.M, A, c, z.floor, z.ls ++ [x]⟩ = z.abs.addS x.keys x.hard := by
    unfold PLog.addS
    rw [hx, if_pos hr]
    simp [RefR.abs]
  refine ⟨⟨z.M, A, c, z.floor, z.ls ++ [x]⟩, ⟨?_, ?_, by show c ≤ _; omega, ?_, ?_, h.fM, by rw [habs]; exact h.ok.add _ _⟩, habs, rfl, ((Kept.of_below b5 _).trans (Kept.of_below b7 _)).trans K7⟩
  · have := h7.bk.set_ 0 (.slice A (z.ls.length + 1) c)
    simp only [List.length_append, List.length_singleton]
    exact this
  · show (z.ls ++ [x]).length ≤ c
    simp only [List.length_append, List.length_singleton]
    exact hnc
  · have e : lC (z.ls ++ [x]) = lC z.ls ++ x.cells := by rw [lC_append]; simp [lC]
    show RVF _ _ A (lC (z.ls ++ [x]))
    rw [e]
    exact (own_rvfN o7 (fun k hk => .inl (by have := hG k hk; omega))).kept (K7.mono fun _ _ hk => .inl hk)
  · intro y hy
    simp only [List.mem_append, List.mem_singleton] at hy
    rcases hy with hy | rfl
    · exact (h7.ks y hy).kept K7 (fun _ hk => .inl hk)
    · obtain ⟨_, _, hz0, hz1, hz2⟩ := own_form o5
      injection hz0 with _ _ hz3
      subst hz3
      unfold maxLen at hz2
      exact ⟨(((own_rvf o5 (fun k hk => .inl (by have := hG k hk; omega))).below b7).kept (K7.mono fun _ _ hk => .inl hk)), hz1, by omega⟩
/-- What Add tells. -/
def RetRA (w : World) (F : Nat → Prop) (z : RefR) (n k : Int) (S : PLog) (e : Ending) (w' : World) : Prop := e = .returned (.tuple #[.int .i64 n, .int .i64 k]) ∧ NextR w F z S w'
set_option maxHeartbeats 3200000 in
set_option maxRecDepth 100000 in
theorem radd_calls (z : RefR) (keys : List Txt) (hard : Bool) (A : Option Addr) (cap : Nat) (w : World) (F : Nat → Prop) (hF : ∀ k, F k → k < w.heap.size) (h : RefOK w F z) (hR : RS w A keys) (hn : keys.length ≤ 1000000) :
    Calls Tryd.prog 37 #[.pointer (some ⟨z.M, 0, none⟩), .slice A keys.length cap, .bool hard] w (RetRA w F z (z.abs.addN keys hard) (z.abs.addE keys hard) (z.abs.addS keys hard)) := by
  have hno := h.ok.now_le
  have NC := rnow_calls z w F h
  have HN : Hid (z.abs.nextL keys hard = ⟨z.abs.now + 1, keys, hard⟩) := rfl
  have HNN : Hid (∃ N, N = z.abs.now) := ⟨_, rfl⟩
  have hlen := h.len_le
  go_enter Tryd.func37, Tryd.ntmps37
  go_wp2_with fail
  refine NC.mono ?_
  clear NC
  rintro e w1 ⟨rfl, q, rfl⟩
  have b0 := drewN_below w q
  have hR1 := hR.below b0
  have h1 := h.below b0
  generalize w.drewN q = w1 at *
  obtain ⟨N, hN⟩ := HNN.out
  rw [← hN] at hno HN ⊢
  have HNow := Lib.hid hN
  clear hN HNN
  go_wp2_with ((with_reducible show wpList _ _ _ (⟨some 14, _, _, _, _, _⟩ :: _) _ _); refine wpList_append_rv el_string rfl (.tmp 12) (.tmp 13) rfl w1.heap.size (.slice (some ⟨w1.heap.size, 0, none⟩) 0 0) 0 [] rfl (own_empty w1 9 1 (Nat.le_refl _)) A keys.length cap (cS keys) rfl ?e1 (hR1.alloc _) (cS_one _) ?e2 ?e3 ?e4 ?_)
  case e1 => rw [cS_len, Nat.mul_one]
  case e2 => unfold maxLen; omega
  case e3 => omega
  case e4 => simp
  intro v3 w3 own3 gr3 hv3
  have own3' : w3.ownsRow w1.heap.size 9 1 v3 keys.length (cS keys) := by simpa using own3
  obtain ⟨A3, c3, rfl, hk3, hc3⟩ := own_form own3'
  unfold maxLen at hc3
  have b3 : Below w.heap.size w w3 := (b0.alloc b0.size _).grown gr3 (by have := b0.size; simp; omega) (fun j hj => by have hj : w1.heap.size = j := Option.some.inj hj; have := b0.size; omega)
  have b3' : Below w1.heap.size w1 w3 := ((Below.refl _ w1).alloc (Nat.le_refl _) _).grown gr3 (by simp) (fun j hj => by have hj : w1.heap.size = j := Option.some.inj hj; omega)
  clear own3 gr3 hv3
  have RC := rright_calls (N + 1) keys hard A3 c3 _ (RV.of_own (own3'.alloc (.cells #[.int .i64 (N + 1), .slice A3 keys.length c3, .bool hard] 51))) hk3 (by omega)
  have b4 : Below w.heap.size w (w3.alloc (.cells #[.int .i64 (N + 1), .slice A3 keys.length c3, .bool hard] 51)) := b3.alloc b3.size _
  have xb := Blk.new w3 51 #[.int .i64 (N + 1), .slice A3 keys.length c3, .bool hard]
  have own4 := own3'.alloc (.cells #[.int .i64 (N + 1), .slice A3 keys.length c3, .bool hard] 51)
  cases hr : rightB ⟨N + 1, keys, hard⟩ with
  | false =>
    rw [hr] at RC
    have HE : Hid (∀ w', Below w.heap.size w w' → RetRA w F z (z.abs.addN keys hard) (z.abs.addE keys hard) (z.abs.addS keys hard) (.returned (.tuple #[.int .i64 0, .int .i64 1])) w') := by
      intro w' hb
      unfold PLog.addN PLog.addE PLog.addS
      rw [HN.out, hr]
      exact ⟨rfl, NextR.same_below h hb⟩
    clear h h1 hR hR1 xb own4 own3'
    go_wp2_with fail
    refine RC.mono ?_
    clear RC
    rintro e w5 ⟨rfl, b5⟩
    have HF := Lib.hid (HE.out _ (b4.trans (b5.mono b4.size)))
    go_wp2
    go_ret2
    exact HF.out
  | true =>
    rw [hr] at RC
    go_wp2_with fail
    refine RC.mono ?_
    clear RC
    rintro e w5 ⟨rfl, b5⟩
    have xb5 := xb.below b5 xb.lt
    have own5 := own_below own4 b5 (fun k hk => (own4.lt k hk).2)
    have b5' := b4.trans (b5.mono b4.size)
    have h5 := h.below b5'
    clear b4 b5 own4 xb own3' b3 b3' h1 hR hR1
    have c0 : w5.cell? ⟨z.M, 0, none⟩ = some (.slice z.A z.ls.length z.cap) := h5.bk.at_ rfl
    have x0 : w5.cell? ⟨w3.heap.size, 0, none⟩ = some (.int .i64 (N + 1)) := xb5.at_ rfl
    have x1 : w5.cell? ⟨w3.heap.size, 1, none⟩ = some (.slice A3 keys.length c3) := xb5.at_ rfl
    have x2 : w5.cell? ⟨w3.heap.size, 2, none⟩ = some (.bool hard) := xb5.at_ rfl
    have c0a : ∀ o, (w5.alloc o).cell? ⟨z.M, 0, none⟩ = some (.slice z.A z.ls.length z.cap) := fun o => (h5.bk.alloc o).at_ rfl
    have x0a : ∀ o, (w5.alloc o).cell? ⟨w3.heap.size, 0, none⟩ = some (.int .i64 (N + 1)) := fun o => (xb5.alloc o).at_ rfl
    have x1a : ∀ o, (w5.alloc o).cell? ⟨w3.heap.size, 1, none⟩ = some (.slice A3 keys.length c3) := fun o => (xb5.alloc o).at_ rfl
    have x2a : ∀ o, (w5.alloc o).cell? ⟨w3.heap.size, 2, none⟩ = some (.bool hard) := fun o => (xb5.alloc o).at_ rfl
    have HP : Hid (∀ (w7 : World) (v : Value), Below w5.heap.size w5 w7 → w7.ownsRow w5.heap.size 51 3 v (z.ls.length + 1) (lC z.ls ++ [.int .i64 (N + 1), .slice A3 keys.length c3, .bool hard]) →
        RetRA w F z (z.abs.addN keys hard) (z.abs.addE keys hard) (z.abs.addS keys hard) (.returned (.tuple #[.int .i64 (N + 1), .int .i64 0])) (w7.setCell ⟨z.M, 0, none⟩ v)) := by
      intro w7 v b7 o7
      have := RefOK.push (x := ⟨N + 1, A3, c3, keys, hard⟩) hF h b5' b0.size own5 b7 o7 HN.out hr
      refine ⟨?_, this⟩
      unfold PLog.addN PLog.addE
      rw [HN.out, hr, ← HNow.out]
      rfl
    have HX : Hid (Blk w5 w3.heap.size 51 #[.int .i64 (N + 1), .slice A3 keys.length c3, .bool hard]) := xb5
    have HB : Hid (Blk w5 z.M 28 #[.slice z.A z.ls.length z.cap, .int .i64 z.floor]) := h5.bk
    have HV : Hid (RV w5 z.A (lC z.ls)) := h5.rd.rv
    have HW : Hid (∀ {w8 : World}, Below w5.heap.size w5 w8 → z.M < w5.heap.size ∧ w3.heap.size < w5.heap.size ∧ w8.cell? ⟨w3.heap.size, 0, none⟩ = some (.int .i64 (N + 1)) ∧ w8.cell? ⟨w3.heap.size, 1, none⟩ = some (.slice A3 keys.length c3) ∧ w8.cell? ⟨w3.heap.size, 2, none⟩ = some (.bool hard)) := by
      intro w8 b8
      have := xb5.below b8 xb5.lt
      exact ⟨h5.bk.lt, xb5.lt, this.at_ rfl, this.at_ rfl, this.at_ rfl⟩
    have HMX : Hid (z.M ≠ w3.heap.size) := by
      intro e
      have h1 := h5.bk
      rw [e] at h1
      have h2 := h1.symm.trans xb5
      injection h2 with h2
      injection h2 with h2
      exact absurd (congrArg Array.size h2) (by simp)
    have hMl := h5.bk.lt
    have hxl := xb5.lt
    have hll : (z.ls.length : Int) ≤ 1099511627776 := hlen
    clear h5 xb5 own5 h hno HNow HN hr hk3 hc3 b0 b5'
    go_wp2_with fail
    go_region_law (first | (refine step_append_rv (A := z.A) (m := z.ls.length) (c := z.cap) (v := .slice (some ⟨w5.heap.size, 0, none⟩) 0 0) (n := 0) (base := w5.heap.size) (xs := []) el_rline rfl (.tmp 21) (.tmp 25) rfl rfl (own_empty w5.drew 51 3 (Nat.le_refl _)) rfl (lC_len _) ((HV.out.drew).alloc _) (lC_one _) (by unfold maxLen; omega) (by omega) (by first | omega | (simp; try omega)) ?_; intro v6 w6 own6 gr6 hv6; (have own6' : w6.ownsRow w5.heap.size 51 3 v6 z.ls.length (lC z.ls) := by simpa using own6); (obtain ⟨A6, c6, hv6f, _, _⟩ := own_form own6'); subst hv6f; have b6 : Below w5.heap.size w5 w6 := Below.grown (((Below.refl _ w5).drew).alloc (Nat.le_refl _) _) gr6 (by simp; try omega) (fun j hj => by have hj : w5.heap.size = j := Option.some.inj hj; omega); have q0 := (HW.out b6).2.2.1; have q1 := (HW.out b6).2.2.2.1; have q2 := (HW.out b6).2.2.2.2; have q0a := fun o => (HW.out (b6.alloc b6.size o)).2.2.1; have q1a := fun o => (HW.out (b6.alloc b6.size o)).2.2.2.1; have q2a := fun o => (HW.out (b6.alloc b6.size o)).2.2.2.2; clear own6 gr6 hv6) | (refine step_append_rv (A := z.A) (m := z.ls.length) (c := z.cap) (v := .slice (some ⟨w5.heap.size + 1, 0, none⟩) 0 0) (n := 0) (base := w5.heap.size) (xs := []) el_rline rfl (.tmp 21) (.tmp 25) rfl rfl (own_emptyA (w5.drew.alloc _) 51 3 (w5.heap.size + 1) (by simp) (by omega)) rfl (lC_len _) (((HV.out.drew).alloc _).alloc _) (lC_one _) (by unfold maxLen; omega) (by omega) (by first | omega | (simp; try omega)) ?_; intro v6 w6 own6 gr6 hv6; (have own6' : w6.ownsRow w5.heap.size 51 3 v6 z.ls.length (lC z.ls) := by simpa using own6); (obtain ⟨A6, c6, hv6f, _, _⟩ := own_form own6'); subst hv6f; have b6 : Below w5.heap.size w5 w6 := Below.grown ((((Below.refl _ w5).drew).alloc (Nat.le_refl _) _).alloc (by simp) _) gr6 (by simp; try omega) (fun j hj => by have hj : w5.heap.size + 1 = j := Option.some.inj hj; omega); have q0 := (HW.out b6).2.2.1; have q1 := (HW.out b6).2.2.2.1; have q2 := (HW.out b6).2.2.2.2; have q0a := fun o => (HW.out (b6.alloc b6.size o)).2.2.1; have q1a := fun o => (HW.out (b6.alloc b6.size o)).2.2.2.1; have q2a := fun o => (HW.out (b6.alloc b6.size o)).2.2.2.2; have rx : RV w6 (some ⟨w5.heap.size, 0, none⟩) [.int .i64 (N + 1), .slice A3 keys.length c3, .bool hard] := rv_grown ((RV.new w5.drew [.int .i64 (N + 1), .slice A3 keys.length c3, .bool hard] 51 (0, 0)).alloc _) gr6 (k := w5.heap.size + 1) rfl (by omega); clear own6 gr6 hv6) | (refine step_append_rv (m := 1) (c := 1) (v := .slice A6 z.ls.length c6) (n := z.ls.length) (base := w5.heap.size) (xs := lC z.ls) el_rline rfl (.tmp 26) (.tmp 28) rfl rfl own6' rfl rfl rx (lC_one [⟨N + 1, A3, c3, keys, hard⟩]) (by unfold maxLen; omega) (by omega) (by have := b6.size; first | omega | (simp; omega)) ?_; intro v7 w7 own7 gr7 hv7; (obtain ⟨A7, c7, hv7f, _, _⟩ := own_form own7); subst hv7f; have b7 : Below w5.heap.size w5 w7 := Below.grown b6 gr7 (by have := b6.size; first | omega | (simp; omega)) (fun j hj => (own6'.lt j hj).1); have HF := Lib.hid (HP.out w7 _ b7 own7); have m7 := (HB.out.below b7 hMl).at_ (i := 0) rfl; have f7 := (HB.out.below b7 hMl).frozen 0; have y7 := ((HX.out.below b7 hxl).far (p := ⟨z.M, 0, none⟩) (Ne.symm HMX.out) (.slice A7 (z.ls.length + 1) c7)).at_ (i := 0) rfl; clear own7 gr7 hv7) | (refine step_append_rv (A := some ⟨w6.heap.size, 0, none⟩) (m := 1) (c := 1) (v := .slice A6 z.ls.length c6) (n := z.ls.length) (base := w5.heap.size) (xs := lC z.ls) el_rline rfl (.tmp 26) (.tmp 28) rfl rfl (own6'.alloc _) rfl rfl (RV.new w6 [.int .i64 (N + 1), .slice A3 keys.length c3, .bool hard] 51 (0, 0)) (lC_one [⟨N + 1, A3, c3, keys, hard⟩]) (by unfold maxLen; omega) (by omega) (by have := b6.size; first | omega | (simp; omega)) ?_; intro v7 w7 own7 gr7 hv7; (obtain ⟨A7, c7, hv7f, _, _⟩ := own_form own7); subst hv7f; have b7 : Below w5.heap.size w5 w7 := Below.grown (b6.alloc b6.size _) gr7 (by have := b6.size; first | omega | (simp; omega)) (fun j hj => (own6'.lt j hj).1); have HF := Lib.hid (HP.out w7 _ b7 own7); have m7 := (HB.out.below b7 hMl).at_ (i := 0) rfl; have f7 := (HB.out.below b7 hMl).frozen 0; have y7 := ((HX.out.below b7 hxl).far (p := ⟨z.M, 0, none⟩) (Ne.symm HMX.out) (.slice A7 (z.ls.length + 1) c7)).at_ (i := 0) rfl; clear own7 gr7 hv7) | (refine step_append_rv (A := z.A) (m := z.ls.length) (c := z.cap) (v := .slice (some ⟨w5.heap.size, 0, none⟩) 0 0) (n := 0) (base := w5.heap.size) (xs := []) el_rline rfl (.tmp 21) (.tmp 25) rfl rfl ((own_empty w5.drew 51 3 (Nat.le_refl _)).alloc _) rfl (lC_len _) (((HV.out.drew).alloc _).alloc _) (lC_one _) (by unfold maxLen; omega) (by omega) (by first | omega | (simp; try omega)) ?_; intro v6 w6 own6 gr6 hv6; (have own6' : w6.ownsRow w5.heap.size 51 3 v6 z.ls.length (lC z.ls) := by simpa using own6); (obtain ⟨A6, c6, hv6f, _, _⟩ := own_form own6'); subst hv6f; have b6 : Below w5.heap.size w5 w6 := Below.grown ((((Below.refl _ w5).drew).alloc (Nat.le_refl _) _).alloc (by simp) _) gr6 (by simp; try omega) (fun j hj => by have hj : w5.heap.size = j := Option.some.inj hj; omega); have q0 := (HW.out b6).2.2.1; have q1 := (HW.out b6).2.2.2.1; have q2 := (HW.out b6).2.2.2.2; have q0a := fun o => (HW.out (b6.alloc b6.size o)).2.2.1; have q1a := fun o => (HW.out (b6.alloc b6.size o)).2.2.2.1; have q2a := fun o => (HW.out (b6.alloc b6.size o)).2.2.2.2; have rx : RV w6 (some ⟨w5.heap.size + 1, 0, none⟩) [.int .i64 (N + 1), .slice A3 keys.length c3, .bool hard] := rv_grown (rv_at (w5.drew.alloc (.cells #[] 51)) [.int .i64 (N + 1), .slice A3 keys.length c3, .bool hard] 51 _ (by simp)) gr6 (k := w5.heap.size) rfl (by omega); clear own6 gr6 hv6))
    all_goals
      clear HP HX HB HV HW HMX
      go_wp2
      go_ret2
      exact HF.out
end Go.Proofs.YtdcjljlppeighaaDoor
