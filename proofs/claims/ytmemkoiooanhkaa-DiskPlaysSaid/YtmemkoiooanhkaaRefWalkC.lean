/-
  The walks of the document's disk: lasts, Flush.
-/
import Derived.Test.YtmemkoiooanhkaaRefWalkB
namespace Go.Proofs.Ytmemkoiooanhkaa
open Go.RowKit DiskP

/-- It gives a disk back. -/
def RetRef1 (w : World) (F : Nat → Prop) (S : Dsk) (e : Ending) (w' : World) : Prop :=
  ∃ m : Ref, e = .returned (m.val S.size S.off) ∧ RefOK w' F m S ∧ Below w.heap.size w w'
def lastsS (d : Dsk) (ks : List (Nat × Sect)) : Dsk := { d with last := applyW d.last ks, wait := [] }
/-- Half of the writes last. -/
structure Lasted (w : World) (F : Nat → Prop) (d : Dsk) (ks : List (Nat × Sect)) (n g c : Nat) (x : Array Value) (k : Nat) (wr : World) : Prop where
  row : ∃ L' : List WR, L'.length = n ∧ LastOK w F d.size L' (applyW d.last (ks.take k)) ∧ wr.ownsRow (w.heap.size + 1 + 1) 70 3 (.slice (some ⟨g, 0, none⟩) n c) n (rC L')
  bel : Below w.heap.size w wr
  box : Blk wr w.heap.size 51 x
  res : Blk wr (w.heap.size + 1) 51 #[.int .i64 0, .slice none 0 0, .slice none 0 0, .bool false]
theorem Lasted.step {w wr : World} {F : Nat → Prop} {d : Dsk} {ks : List (Nat × Sect)} {n g c : Nat} {x : Array Value} {k : Nat} {L' : List WR} {r : WR} {i : Nat} (hL : L'.length = n) (hi : i < n) (hg : w.heap.size + 1 + 1 ≤ g)
    (lo : LastOK w F d.size (L'.set i r) (applyW d.last (ks.take (k + 1)))) (own : wr.ownsRow (w.heap.size + 1 + 1) 70 3 (.slice (some ⟨g, 0, none⟩) n c) n (rC L')) (bel : Below w.heap.size w wr)
    (box : Blk wr w.heap.size 51 x) (res : Blk wr (w.heap.size + 1) 51 #[.int .i64 0, .slice none 0 0, .slice none 0 0, .bool false]) (hn : r.n = (i : Int)) (o : Obj) :
    Lasted w F d ks n g c x (k + 1) ((((wr.setCell ⟨g, i * 3, none⟩ (.int .i64 (i : Int))).setCell ⟨g, i * 3 + 1, none⟩ (.slice r.A r.len r.cap)).setCell ⟨g, i * 3 + 2, none⟩ (.bool r.rot)).alloc o) := by
  have o1 := (own.stored (i * 3) (.int .i64 (i : Int))).1
  have o2 := (o1.stored (i * 3 + 1) (.slice r.A r.len r.cap)).1
  have o3 := (o2.stored (i * 3 + 2) (.bool r.rot)).1
  rw [← hn, rC_set L' i r (by omega), hn] at o3
  have e1 : w.heap.size ≠ g := by omega
  have e2 : w.heap.size + 1 ≠ g := by omega
  have b3 := ((bel.setCell (p := ⟨g, i * 3, none⟩) (by show _ ≤ g; omega) (.int .i64 (i : Int))).setCell (p := ⟨g, i * 3 + 1, none⟩) (by show _ ≤ g; omega) (.slice r.A r.len r.cap)).setCell (p := ⟨g, i * 3 + 2, none⟩) (by show _ ≤ g; omega) (.bool r.rot)
  exact ⟨⟨L'.set i r, by simp [hL], lo, o3.alloc _⟩, b3.alloc b3.size _, (((box.far e1 _).far e1 _).far e1 _).alloc _, (((res.far e2 _).far e2 _).far e2 _).alloc _⟩
set_option maxHeartbeats 800000 in
theorem lasts_calls (m : Ref) (d : Dsk) (F : Nat → Prop) (AK : Option Addr) (kK : Nat) (K : List WR) (ks : List (Nat × Sect)) (w : World) (h : RefOK w F m d) (hF : ∀ k, F k → k < w.heap.size)
    (hkr : RVF w F AK (rC K)) (hko : WaitOK w F d.size K ks) (hkw : ∀ x ∈ ks, x.1 < d.last.length) (hkl : ks.length ≤ 1000000) :
    Calls Try.prog 30 #[m.val d.size d.off, .slice AK K.length kK] w (RetRef1 w F (lastsS d ks)) := by
  obtain ⟨AL, kL, L, AW, kW, W⟩ := m
  have hlen : L.length = d.last.length := h.lo.len
  have hKl : K.length = ks.length := hko.len
  have hl2 := h.l2
  have hl1 := h.l1
  have hs2 := h.s2
  have hlr : RVF w F AL (rC L) := h.lr
  have hL1 : 1 ≤ L.length := by omega
  have hL2 : L.length ≤ 65536 := by omega
  have hK : K.length ≤ 1000000 := by omega
  have HL := Lib.hid hlen
  have HK := Lib.hid hKl
  clear hlen hKl
  unfold Ref.val
  go_enter Try.func30, Try.ntmps30
  go_wp2_with ((with_reducible show wpList _ _ _ (⟨some 10, _, _, _, _, _⟩ :: _) _ _); refine wpList_append_rv el_rw rfl (.tmp 7) (.tmp 9) rfl (w.heap.size + 1 + 1) (.slice (some ⟨w.heap.size + 1 + 1, 0, none⟩) 0 0) 0 [] rfl (own_empty' _ _ _ _ (by simp) (by omega)) AL L.length kL (rC L) rfl (rC_len L) ?e1 (rC_one L) ?e2 ?e3 ?e4 ?_)
  case e1 => exact (hlr.below ((((Below.refl _ _).alloc (Nat.le_refl _) _).alloc (by simp) _).alloc (by simp; omega) _)).rv
  case e2 => unfold maxLen; omega
  case e3 => omega
  case e4 => (simp; try omega)
  intro v1 w1 own1 gr1 hv1
  try simp only [Nat.zero_add, List.nil_append] at own1
  obtain ⟨g, k1, hv1f, hg⟩ : ∃ g k1, v1 = .slice (some ⟨g, 0, none⟩) L.length k1 ∧ w.heap.size + 1 + 1 ≤ g := by
    rcases own1.2 with ⟨_, h0⟩ | ⟨g, cap, cur, hv, hb, _⟩
    · omega
    · exact ⟨g, cap, hv, hb⟩
  have b1 : Below w.heap.size w w1 := ((((Below.refl _ _).alloc (Nat.le_refl _) _).alloc (by simp) _).alloc (by simp; omega) _).grown gr1 (by simp; omega) (fun k hk => by simp [Value.ownBlock] at hk; omega)
  have x1 : Blk w1 w.heap.size 51 _ := (((Blk.new w _ _).alloc _).alloc _).grown gr1 (by simp [Value.ownBlock]; try omega)
  have z1 : Blk w1 (w.heap.size + 1) 51 #[.int .i64 0, .slice none 0 0, .slice none 0 0, .bool false] := by
    have : Blk _ (w.alloc (.cells #[.int .i64 (d.size : Int), .slice AL L.length kL, .slice AW W.length kW, .bool d.off] 51)).heap.size _ _ := (Blk.new _ 51 #[.int .i64 0, .slice none 0 0, .slice none 0 0, .bool false]).alloc (.cells #[] 70)
    rw [World.size_alloc] at this
    exact this.grown gr1 (by simp [Value.ownBlock]; try omega)
  clear gr1 hv1
  subst hv1f
  have L0 : Lasted w F d ks L.length g k1 #[.int .i64 (d.size : Int), .slice (some ⟨g, 0, none⟩) L.length k1, .slice AW W.length kW, .bool d.off] 0 (w1.setCell ⟨w.heap.size, 1, none⟩ (.slice (some ⟨g, 0, none⟩) L.length k1)) :=
    ⟨⟨L, rfl, h.lo, own_frame own1 fun k hk => heap_setCell_other _ _ _ _ (by simp [Value.ownBlock] at hk; show k ≠ w.heap.size; omega)⟩, b1.setCell (Nat.le_refl _) _, x1.set_ 1 _, z1.far (p := ⟨w.heap.size, 1, none⟩) (by simp) _⟩
  have q1 : w1.cell? ⟨w.heap.size, 1, none⟩ = some (.slice AL L.length kL) := x1.at_ rfl
  have y1 := x1.frozen 1
  clear x1 z1 own1
  go_wp2
  go_loopw [6, 14] (fun _ i wr => ∃ k : Nat, k ≤ K.length ∧ i = .int .i64 k ∧ Lasted w F d ks L.length g k1 #[.int .i64 (d.size : Int), .slice (some ⟨g, 0, none⟩) L.length k1, .slice AW W.length kW, .bool d.off] k wr) (fun _ i _ => K.length - (intOf i).toNat)
  case atStart => exact ⟨0, by omega, rfl, L0⟩
  case round =>
    obtain ⟨k, hk, rfl, ⟨L', hL', lo', own⟩, bel, box, res⟩ := hrel
    clear L0 q1 y1 b1
    have c1 : wr.cell? ⟨w.heap.size, 1, none⟩ = some (.slice (some ⟨g, 0, none⟩) L.length k1) := box.at_ rfl
    have bl := box.lt
    have rl := res.lt
    by_cases hlt : k < K.length
    · obtain ⟨r, hr⟩ : ∃ r, K[k]? = some r := ⟨_, List.getElem?_eq_getElem hlt⟩
      have hks : k < ks.length := by rw [← HK.out]; exact hlt
      obtain ⟨x, hx⟩ : ∃ x, ks[k]? = some x := ⟨_, List.getElem?_eq_getElem hks⟩
      obtain ⟨hn, hro⟩ := hko.at_ k r x hr hx
      obtain ⟨b, off, rfl, hb, _, hc⟩ := hkr.row hr
      obtain ⟨q0, q1, q2⟩ := hc wr bel
      rw [hn] at q0
      have hxl : x.1 < L.length := by rw [HL.out]; exact hkw x (List.mem_of_getElem? hx)
      have HT : Hid (applyW d.last (ks.take (k + 1)) = (applyW d.last (ks.take k)).set x.1 x.2) := by
        show _ = _
        have : ks.take (k + 1) = ks.take k ++ [x] := by
          rw [List.take_succ_eq_append_getElem hks]
          rw [List.getElem?_eq_getElem hks] at hx
          injection hx with hx
          rw [hx]
        rw [this, toldW_snoc]
      have lo'' := lo'.set x.1 hro
      rw [← HT.out] at lo''
      have hgl := own_lt own (k := g) rfl
      obtain ⟨u0, g0⟩ : ∃ u, wr.cell? ⟨g, x.1 * 3, none⟩ = some u := by
        have hq : x.1 * 3 < (rC L').length := by rw [rC_len, hL']; omega
        have := own.cells (g := g) rfl (x.1 * 3) _ (List.getElem?_eq_getElem hq)
        rw [add_zero_off] at this
        exact ⟨_, this⟩
      obtain ⟨u1, g1⟩ : ∃ u, wr.cell? ⟨g, x.1 * 3 + 1, none⟩ = some u := by
        have hq : x.1 * 3 + 1 < (rC L').length := by rw [rC_len, hL']; omega
        have := own.cells (g := g) rfl (x.1 * 3 + 1) _ (List.getElem?_eq_getElem hq)
        rw [add_zero_off] at this
        exact ⟨_, this⟩
      obtain ⟨u2, g2⟩ : ∃ u, wr.cell? ⟨g, x.1 * 3 + 2, none⟩ = some u := by
        have hq : x.1 * 3 + 2 < (rC L').length := by rw [rC_len, hL']; omega
        have := own.cells (g := g) rfl (x.1 * 3 + 2) _ (List.getElem?_eq_getElem hq)
        rw [add_zero_off] at this
        exact ⟨_, this⟩
      have f0 := own.frozenAt (x.1 * 3)
      have f1 := own.frozenAt (x.1 * 3 + 1)
      have f2 := own.frozenAt (x.1 * 3 + 2)
      have hdec : decide ((k : Int) < (K.length : Int)) = true := by simp; omega
      have HST := Lib.hid (fun o => Lasted.step hL' hxl hg lo'' own bel box res hn o)
      clear hc hr hx hn HT lo' lo'' own box res
      go_wp2
      go_roundw
      case rel => exact ⟨k + 1, by omega, by go_num, HST.out _⟩
      case measure => simp [intOf]; omega
    · obtain rfl : k = K.length := by omega
      have HT : Hid (ks.take K.length = ks) := by show _ = _; rw [HK.out]; simp
      have lo2 : LastOK w F d.size L' (applyW d.last ks) := by rw [← HT.out]; exact lo'
      have hFb : ∀ k, (F k ∨ k = w.heap.size ∨ k = w.heap.size + 1) → k < w.heap.size + 1 + 1 := fun k hk => by rcases hk with hk | hk | hk; (have := hF k hk; omega); omega; omega
      have hm : RefOK wr (fun k => F k ∨ k = w.heap.size ∨ k = w.heap.size + 1) ⟨some ⟨g, 0, none⟩, k1, L', none, 0, []⟩ (lastsS d ks) :=
        { lr := by
            have e : rC L' = rC L' := rfl
            exact RVF.of_own own hFb
          wr := RVF.nil
          lo := (lo2.mono fun k hk hg => by rcases hg with hg | hg | hg; exact hg; omega; omega).below bel
          wo := WaitOK.nil
          s1 := h.s1
          s2 := h.s2
          l1 := by show 1 ≤ (applyW d.last ks).length; rw [applyW_length]; exact h.l1
          l2 := by show (applyW d.last ks).length ≤ 65536; rw [applyW_length]; exact h.l2
          ww := fun x hx => by simp [lastsS] at hx }
      have hend : ∀ (u0 u1 u2 u3 u4 : Value), RetRef1 w F (lastsS d ks) (.returned (Ref.val ⟨some ⟨g, 0, none⟩, k1, L', none, 0, []⟩ d.size d.off)) (((((wr.setCell ⟨w.heap.size, 2, none⟩ u0).setCell ⟨w.heap.size + 1, 0, none⟩ u1).setCell ⟨w.heap.size + 1, 1, none⟩ u2).setCell ⟨w.heap.size + 1, 2, none⟩ u3).setCell ⟨w.heap.size + 1, 3, none⟩ u4) := by
        intro u0 u1 u2 u3 u4
        refine ⟨_, rfl, (hm.kept (((((Kept.refl _ _).setCell (.inl (.inr (.inl rfl))) _).setCell (.inl (.inr (.inr rfl))) _).setCell (.inl (.inr (.inr rfl))) _).setCell (.inl (.inr (.inr rfl))) _ |>.setCell (.inl (.inr (.inr rfl))) _)).mono (fun _ _ hf => .inl hf), ?_⟩
        exact ((((bel.setCell (Nat.le_refl _) _).setCell (Nat.le_succ _) _).setCell (Nat.le_succ _) _).setCell (Nat.le_succ _) _).setCell (Nat.le_succ _) _
      have HEND := Lib.hid hend
      have HL' := Lib.hid hL'
      have c0 : wr.cell? ⟨w.heap.size, 0, none⟩ = some (.int .i64 (d.size : Int)) := box.at_ rfl
      have c2 : wr.cell? ⟨w.heap.size, 2, none⟩ = some (.slice AW W.length kW) := box.at_ rfl
      have c3 : wr.cell? ⟨w.heap.size, 3, none⟩ = some (.bool d.off) := box.at_ rfl
      have y2 := box.frozen 2
      have p0 : wr.cell? ⟨w.heap.size + 1, 0, none⟩ = some (.int .i64 0) := res.at_ rfl
      have p1 : wr.cell? ⟨w.heap.size + 1, 1, none⟩ = some (.slice none 0 0) := res.at_ rfl
      have p2 : wr.cell? ⟨w.heap.size + 1, 2, none⟩ = some (.slice none 0 0) := res.at_ rfl
      have p3 : wr.cell? ⟨w.heap.size + 1, 3, none⟩ = some (.bool false) := res.at_ rfl
      have t0 := res.frozen 0
      have t1 := res.frozen 1
      have t2 := res.frozen 2
      have t3 := res.frozen 3
      clear hm hend lo2 lo' own box res HT hL' hlt hFb
      go_wp2
      refine bodyPost_ret (v := Ref.val ⟨some ⟨g, 0, none⟩, k1, L', none, 0, []⟩ d.size d.off) (by simp [results, Try.results30, go_sem, Ref.val, p0, p1, p2, p3, HL'.out]) rfl (HEND.out _ _ _ _ _)
theorem rflush_calls (m : Ref) (d : Dsk) (F : Nat → Prop) (w : World) (h : RefOK w F m d) (hF : ∀ k, F k → k < w.heap.size) (hw : d.wait.length ≤ 1000000) :
    Calls Try.prog 25 #[m.val d.size d.off] w (RetRef2 w F d.flushE d.flushS) := by
  have hb : ∀ o o' : Obj, Below w.heap.size w ((w.alloc o).alloc o') := fun o o' => ((Below.refl _ _).alloc (Nat.le_refl _) _).alloc (by simp) _
  cases ho : d.off
  · have hS : d.flushS = lastsS d d.wait := by unfold DiskP.Dsk.flushS; rw [ho]; rfl
    have hE : d.flushE = 0 := by unfold DiskP.Dsk.flushE; rw [ho]; rfl
    rw [hS, hE]
    have hG : RefOK w (fun k => F k ∨ k = w.heap.size ∨ k = w.heap.size + 1) m d := h.mono fun k hk hg => by rcases hg with hg | hg | hg; exact hg; omega; omega
    have hLC := fun (w2 : World) (b2 : Below w.heap.size w w2) (hs2 : w.heap.size + 1 < w2.heap.size) => lasts_calls m d (fun k => F k ∨ k = w.heap.size ∨ k = w.heap.size + 1) m.AW m.kW m.W d.wait w2 (hG.below b2) (fun k hk => by rcases hk with hk | hk | hk; (have := hF k hk; omega); omega; omega) (hG.below b2).wr (hG.below b2).wo h.ww hw
    rw [ho] at hLC
    obtain ⟨AL, kL, L, AW, kW, W⟩ := m
    have HO := Lib.hid ho
    clear ho hS hE hG
    unfold Ref.val at hLC ⊢
    go_enter Try.func25, Try.ntmps25
    go_wp2_with fail
    refine (hLC _ (hb _ _) (by simp)).mono ?_
    rintro e w1 ⟨m1, rfl, h1, b1⟩
    have z1 : Blk w1 (w.heap.size + 1) 51 #[.int .i64 0, .slice none 0 0, .slice none 0 0, .bool false] := by
      have := (Blk.new (w.alloc (.cells #[.int .i64 (d.size : Int), .slice AL L.length kL, .slice AW W.length kW, .bool false] 51)) 51 #[.int .i64 0, .slice none 0 0, .slice none 0 0, .bool false]).below b1 (by simp)
      rw [World.size_alloc] at this
      exact this
    obtain ⟨AL1, kL1, L1, AW1, kW1, W1⟩ := m1
    have b1' : Below w.heap.size w w1 := (hb _ _).trans (b1.mono (by simp; omega))
    have hend : ∀ (u1 u2 u3 u4 : Value), RetRef2 w F 0 (lastsS d d.wait) (.returned (.tuple #[Ref.val ⟨AL1, kL1, L1, AW1, kW1, W1⟩ d.size false, .int .i64 0])) ((((w1.setCell ⟨w.heap.size + 1, 0, none⟩ u1).setCell ⟨w.heap.size + 1, 1, none⟩ u2).setCell ⟨w.heap.size + 1, 2, none⟩ u3).setCell ⟨w.heap.size + 1, 3, none⟩ u4) := by
      intro u1 u2 u3 u4
      refine ⟨_, by rw [show (lastsS d d.wait).off = false from HO.out]; rfl, (h1.kept ((((Kept.refl _ _).setCell (.inl (.inr (.inr rfl))) _).setCell (.inl (.inr (.inr rfl))) _).setCell (.inl (.inr (.inr rfl))) _ |>.setCell (.inl (.inr (.inr rfl))) _)).mono (fun _ _ hf => .inl hf), ?_⟩
      exact (((b1'.setCell (Nat.le_succ _) _).setCell (Nat.le_succ _) _).setCell (Nat.le_succ _) _).setCell (Nat.le_succ _) _
    have HEND := Lib.hid hend
    have p0 : w1.cell? ⟨w.heap.size + 1, 0, none⟩ = some (.int .i64 0) := z1.at_ rfl
    have p1 : w1.cell? ⟨w.heap.size + 1, 1, none⟩ = some (.slice none 0 0) := z1.at_ rfl
    have p2 : w1.cell? ⟨w.heap.size + 1, 2, none⟩ = some (.slice none 0 0) := z1.at_ rfl
    have p3 : w1.cell? ⟨w.heap.size + 1, 3, none⟩ = some (.bool false) := z1.at_ rfl
    have t0 := z1.frozen 0
    have t1 := z1.frozen 1
    have t2 := z1.frozen 2
    have t3 := z1.frozen 3
    have e1 : (lastsS d d.wait).size = d.size := rfl
    have e2 : (lastsS d d.wait).off = false := HO.out
    rw [e1, e2]
    clear hend h1 z1 e1 e2 hLC
    unfold Ref.val
    go_wp2
    refine bodyPost_ret (v := .tuple #[Ref.val ⟨AL1, kL1, L1, AW1, kW1, W1⟩ d.size false, .int .i64 0]) (by simp [results, Try.results25, go_sem, Ref.val, p0, p1, p2, p3]) rfl (HEND.out _ _ _ _)
  · have hS : d.flushS = d := by unfold DiskP.Dsk.flushS; rw [ho]; rfl
    have hE : d.flushE = 10 := by unfold DiskP.Dsk.flushE; rw [ho]; rfl
    rw [hS, hE]
    have HO := Lib.hid ho
    have H := Lib.hid h
    clear ho hS hE h
    unfold Ref.val
    go_enter Try.func25, Try.ntmps25
    go_wp2
    refine bodyPost_ret (v := .tuple #[m.val d.size true, .int .i64 10]) (by simp [results, Try.results25, go_sem, Ref.val]) rfl ⟨m, by rw [HO.out], H.out.below (hb _ _), hb _ _⟩
end Go.Proofs.Ytmemkoiooanhkaa
