/-
  The walk of the document's disk: New.
-/
import Derived.Test.YtmemkoiooanhkaaRefWalkF
import Derived.Deep.RegionLaw
namespace Go.Proofs.Ytmemkoiooanhkaa
open Go.RowKit DiskP

/-- append of what can be read onto a row of the call's own, as one step of a region that draws. -/
theorem step_append_rv {P : Program} {w : World} {base : Nat} {t e : TypeId} {z : Value} {size bytes n m c : Nat} {v : Value} {xs news : List Value} {A : Option Addr} {ops : Array Oper} {o : Oper} {a : Act} {K : Act → World → Prop} {Q : Exit → Act → World → Prop} {E : Prop}
    (El0 : El P t e z size bytes) (hg : o.guard = none) (s x : Operand)
    (ho : o.op = .call { callee := .builtin .append, args := #[s, x], argTypes := #[t, t] })
    (hs : a.eval s = v) (hown : w.ownsRow base e size v n xs)
    (hx : a.eval x = .slice A m c) (hl : news.length = m * size) (hr : RV w A news) (h1 : ∀ u ∈ news, u.oneCell' = true)
    (h63 : n + m ≤ maxLen) (hbytes : (n + m) * bytes ≤ 140737488355328) (hbase : base ≤ w.heap.size)
    (hK : ∀ v' w', w'.ownsRow base e size v' (n + m) (xs ++ news) → w.grownBy w' v.ownBlock → (v'.ownBlock = v.ownBlock ∨ v'.ownBlock = some w.heap.size) → K (a.put o.dst v') w') :
    if Region.wanted o (yielded ops a.tmps) = true then Oper.wp P o a w K Q else E := by
  have hw : Region.wanted o (yielded ops a.tmps) = true := by simp [Region.wanted, hg]
  rw [if_pos hw]
  obtain ⟨v', w', hrun, h2, h3, h4⟩ := run_append_rv (P := P) (w := w) (ty := o.type) (c := c) El0 hown hl hr h1 h63 hbytes hbase
  unfold Oper.wp execOp
  simp only [ho, resolve, invoke, builtin, Sem.run_bind, Sem.run_pure, Result.andThen_ok, List.map_toArray, List.map_cons, List.map_nil, hs, hx, hrun]
  exact hK _ _ h2 h3 h4
/-- A disk in the making. -/
structure Making (w : World) (size k : Nat) (wr : World) : Prop where
  row : ∃ (L : List WR) (v : Value), L.length = k ∧ wr.ownsRow (w.heap.size + 1 + 1) 70 3 v k (rC L) ∧ LastOK wr (fun j => j < w.heap.size + 1 + 1 ∨ v.ownBlock = some j) size L (List.replicate k (zeroS size)) ∧
    Blk wr (w.heap.size + 1) 51 #[.int .i64 (size : Int), v, .slice none 0 0, .bool false]
  bel : Below w.heap.size w wr
  res : Blk wr w.heap.size 51 #[.int .i64 0, .slice none 0 0, .slice none 0 0, .bool false]
theorem rep_cB (n : Nat) : rep n (.int .u8 0) = (cB (List.replicate n 0)).toArray := by simp [rep, cB, byteV]
theorem LastOK.snoc {w : World} {F : Nat → Prop} {size : Nat} {L : List WR} {S : List Sect} (h : LastOK w F size L S) {r : WR} {s : Sect} (hr : WrOK w F size r s) : LastOK w F size (L ++ [r]) (S ++ [s]) := by
  refine ⟨by simp [h.len], fun j q t hq ht => ?_⟩
  by_cases hj : j < L.length
  · rw [List.getElem?_append_left hj] at hq
    rw [List.getElem?_append_left (by rw [← h.len]; exact hj)] at ht
    exact h.at_ j q t hq ht
  · rw [List.getElem?_append_right (by omega)] at hq
    rw [List.getElem?_append_right (by rw [← h.len]; omega), ← h.len] at ht
    have : j - L.length = 0 := by
      rcases Nat.eq_zero_or_pos (j - L.length) with h | h
      · exact h
      · rw [List.getElem?_eq_none (by simp; omega)] at hq; cases hq
    rw [this] at hq ht
    simp at hq ht
    subst hq; subst ht
    exact hr
theorem Making.step {w wr w1 : World} {size k : Nat} {L : List WR} {v v1 : Value} (hL : L.length = k) (own : wr.ownsRow (w.heap.size + 1 + 1) 70 3 v k (rC L))
    (lo : LastOK wr (fun j => j < w.heap.size + 1 + 1 ∨ v.ownBlock = some j) size L (List.replicate k (zeroS size)))
    (box : Blk wr (w.heap.size + 1) 51 #[.int .i64 (size : Int), v, .slice none 0 0, .bool false]) (bel : Below w.heap.size w wr)
    (res : Blk wr w.heap.size 51 #[.int .i64 0, .slice none 0 0, .slice none 0 0, .bool false]) (o : Obj)
    (own1 : w1.ownsRow (w.heap.size + 1 + 1) 70 3 v1 (k + 1) (rC L ++ [.int .i64 (k : Int), .slice (some ⟨wr.heap.size, 0, none⟩) size size, .bool false]))
    (gr : ((wr.alloc (.cells (rep size (.int .u8 0)) 5)).alloc o).drew.grownBy w1 v.ownBlock) (hv : v1.ownBlock = v.ownBlock ∨ v1.ownBlock = some (wr.heap.size + 1 + 1)) (hsz : 1 ≤ size) :
    Making w size (k + 1) (w1.setCell ⟨w.heap.size + 1, 1, none⟩ v1) ∧ Blk w1 (w.heap.size + 1) 51 #[.int .i64 (size : Int), v, .slice none 0 0, .bool false] := by
  have hne : ∀ g, g < w.heap.size + 1 + 1 → some g ≠ v.ownBlock := fun g hg e => by have := (own_lt own e.symm).1; omega
  have hwl := bel.size
  have bl := box.lt
  have gr : ((wr.alloc (.cells (rep size (.int .u8 0)) 5)).alloc o).grownBy w1 v.ownBlock := ⟨gr.os, gr.tape, gr.output, gr.size, gr.block⟩
  have b2 : Below w.heap.size w ((wr.alloc (.cells (rep size (.int .u8 0)) 5)).alloc o) := (bel.alloc bel.size _).alloc (by simp; omega) _
  have b3 : Below w.heap.size w w1 := b2.grown gr (by simp; omega) (fun g hg => by have := (own_lt own hg).1; omega)
  have box1 := ((box.alloc (.cells (rep size (.int .u8 0)) 5)).alloc o).grown gr (hne _ (by omega))
  have res1 := ((res.alloc (.cells (rep size (.int .u8 0)) 5)).alloc o).grown gr (hne _ (by omega))
  have nb : Blk w1 wr.heap.size 5 (rep size (.int .u8 0)) := ((Blk.new wr _ _).alloc o).grown gr (fun e => by have := (own_lt own e.symm).2; omega)
  have k1 : Kept (fun j => j < w.heap.size + 1 + 1 ∨ v.ownBlock = some j) wr w1 :=
    ((((Kept.refl _ wr).alloc _).alloc o).grown gr (fun g hg => .inl (.inr hg)))
  have hvne : v1.ownBlock ≠ some wr.heap.size := by
    intro e
    rcases hv with h | h
    · rw [h] at e; have := (own_lt own e).2; omega
    · rw [h] at e; injection e with e; omega
  have l1 : LastOK w1 (fun j => j < w.heap.size + 1 + 1 ∨ v1.ownBlock = some j) size L (List.replicate k (zeroS size)) := by
    have lo2 := lo.mono (G := fun j => (j < w.heap.size + 1 + 1 ∨ v.ownBlock = some j) ∨ v1.ownBlock = some j) (fun j hj hg => by
      rcases hg with hg | hg
      · exact hg
      · rcases hv with h | h
        · exact .inr (h ▸ hg)
        · rw [h] at hg; injection hg with hg; omega)
    refine (lo2.kept (k1.mono fun j _ hg => .inl hg)).mono fun j _ hg => ?_
    rcases hg with hg | hg
    · exact .inl (.inl hg)
    · exact .inr hg
  have l2 : LastOK w1 (fun j => j < w.heap.size + 1 + 1 ∨ v1.ownBlock = some j) size (L ++ [⟨(k : Int), some ⟨wr.heap.size, 0, none⟩, size, size, false⟩]) (List.replicate (k + 1) (zeroS size)) := by
    rw [List.replicate_succ']
    refine l1.snoc ⟨rfl, ?_⟩
    show (List.replicate size (0 : UInt8)).length = size ∧ size = size ∧ RVF w1 _ (some ⟨wr.heap.size, 0, none⟩) (cB (List.replicate size 0))
    refine ⟨by simp, rfl, fun _ => ⟨wr.heap.size, 0, rfl, nb.lt, ?_, fun i u hu => ?_⟩⟩
    · rintro (hg | hg)
      · omega
      · exact hvne hg
    · rw [Nat.zero_add]
      refine nb.at_ ?_
      rw [rep_cB]
      simpa using hu
  refine ⟨⟨⟨L ++ [⟨(k : Int), some ⟨wr.heap.size, 0, none⟩, size, size, false⟩], v1, by simp [hL], ?_, l2.kept ((Kept.refl _ _).setCell (.inl (.inl (by show w.heap.size + 1 < _; omega))) _), box1.set_ 1 v1⟩, b3.setCell (by show w.heap.size ≤ w.heap.size + 1; omega) _, res1.far (p := ⟨w.heap.size + 1, 1, none⟩) (by show w.heap.size ≠ w.heap.size + 1; omega) _⟩, box1⟩
  have : rC (L ++ [⟨(k : Int), some ⟨wr.heap.size, 0, none⟩, size, size, false⟩]) = rC L ++ [.int .i64 (k : Int), .slice (some ⟨wr.heap.size, 0, none⟩) size size, .bool false] := by rw [rC_append]; rfl
  rw [this]
  exact own_frame own1 fun g hg => heap_setCell_other _ _ _ _ (by have := (own_lt own1 hg).1; show g ≠ w.heap.size + 1; omega)
set_option maxHeartbeats 1600000 in
theorem rnew_calls (n size : Nat) (F : Nat → Prop) (w : World) (hF : ∀ k, F k → k < w.heap.size) (h1 : 1 ≤ n) (h2 : n ≤ 65536) (h3 : 16 ≤ size) (h4 : size ≤ 4096) :
    Calls Try.prog 20 #[.int .i64 (n : Int), .int .i64 (size : Int)] w (RetRef2 w F 0 (newD n size)) := by
  have d1 : decide ((n : Int) < 1) = false := by simp; omega
  have d2 : decide (65536 < (n : Int)) = false := by simp; omega
  have d3 : decide ((size : Int) < 16) = false := by simp; omega
  have d4 : decide (4096 < (size : Int)) = false := by simp; omega
  have hmk := run_make_n el_u8 rfl size (by omega) (by omega)
  go_enter Try.func20, Try.ntmps20
  go_wp2
  go_loopw [7] (fun i wr => ∃ k : Nat, k ≤ n ∧ i = .int .i64 k ∧ Making w size k wr) (fun i _ => n - (intOf i).toNat)
  case atStart =>
    refine ⟨0, by omega, rfl, ⟨[], .slice none 0 0, rfl, World.ownsRow_nil _ _ _ _, ⟨rfl, fun i r s h => by simp at h⟩, ?_⟩, ((Below.refl _ _).alloc (Nat.le_refl _) _).alloc (by simp) _, (Blk.new w _ _).alloc _⟩
    have := Blk.new (w.alloc (.cells #[.int .i64 0, .slice none 0 0, .slice none 0 0, .bool false] 51)) 51 #[.int .i64 (size : Int), .slice none 0 0, .slice none 0 0, .bool false]
    rw [World.size_alloc] at this
    exact this
  case round =>
    obtain ⟨k, hk, rfl, ⟨L, v, hL, own, lo, box⟩, bel, res⟩ := hrel
    by_cases hlt : k < n
    · obtain ⟨AV, kV, hvf, _, _⟩ := own_form own
      subst hvf
      have c1 : wr.cell? ⟨w.heap.size + 1, 1, none⟩ = some (.slice AV k kV) := box.at_ rfl
      have y1 := box.frozen 1
      have bl := box.lt
      have hdec : decide ((k : Int) < (n : Int)) = true := by simp; omega
      have hdec' : decide (k < n) = true := by simp; omega
      have HB := Lib.hid box
      have HO := Lib.hid own
      have HR := Lib.hid res
      have HL := Lib.hid hL
      have HLo := Lib.hid lo
      clear box own res hL lo
      go_wp2
      have rv : RV ((wr.alloc (.cells (rep size (.int .u8 0)) 5)).alloc (.cells #[.int .i64 (k : Int), .slice (some ⟨wr.heap.size, 0, none⟩) size size, .bool false] 70)).drew (some ⟨wr.heap.size + 1, 0, none⟩) [.int .i64 (k : Int), .slice (some ⟨wr.heap.size, 0, none⟩) size size, .bool false] := by
        have := RV.new (wr.alloc (.cells (rep size (.int .u8 0)) 5)) [.int .i64 (k : Int), .slice (some ⟨wr.heap.size, 0, none⟩) size size, .bool false] 70 (0, 0)
        rw [World.size_alloc] at this
        exact this
      have hbb := bel.size
      have c1' : ∀ o, (wr.alloc o).cell? ⟨w.heap.size + 1, 1, none⟩ = some (.slice AV k kV) := fun o => (World.cell?_alloc_lt wr o ⟨w.heap.size + 1, 1, none⟩ bl).trans c1
      have c1'' : ∀ o o', ((wr.alloc o).alloc o').cell? ⟨w.heap.size + 1, 1, none⟩ = some (.slice AV k kV) := fun o o' => (World.cell?_alloc_lt (wr.alloc o) o' ⟨w.heap.size + 1, 1, none⟩ (by simp; omega)).trans (c1' o)
      go_region_law ((refine step_append_rv (A := some ⟨wr.heap.size + 1, 0, none⟩) (m := 1) (c := 1) (v := .slice AV k kV) el_rw rfl (.tmp 31) (.tmp 36) rfl rfl (((HO.out.alloc _).alloc _).drew) rfl rfl rv (rC_one [⟨k, some ⟨wr.heap.size, 0, none⟩, size, size, false⟩]) (by unfold maxLen; omega) (by omega) (by simp; omega) ?_; intro v1 w1 own1 gr1 hv1; (obtain ⟨A1, k1, hv1f, _, _⟩ := own_form own1); (have ST := Making.step HL.out HO.out HLo.out HB.out bel HR.out _ own1 gr1 (by simpa using hv1) (by omega)); subst hv1f; (have c2 : w1.cell? ⟨w.heap.size + 1, 1, none⟩ = some (.slice AV k kV) := ST.2.at_ rfl); (have y2 := ST.2.frozen 1); (have HST := Lib.hid ST.1); clear ST own1 gr1 hv1))
      all_goals
        go_wp2
        go_roundw
        case rel => exact ⟨k + 1, by omega, by go_num, HST.out⟩
        case measure => simp [intOf]; omega
    · obtain rfl : k = n := by omega
      obtain ⟨AV, kV, hvf, _, _⟩ := own_form own
      subst hvf
      have hFb : ∀ j, (F j ∨ j = w.heap.size ∨ j = w.heap.size + 1) → j < w.heap.size + 1 + 1 := fun k hk => by rcases hk with hk | hk | hk; (have := hF k hk; omega); omega; omega
      have hm : RefOK wr (fun j => F j ∨ j = w.heap.size ∨ j = w.heap.size + 1) ⟨AV, kV, L, none, 0, []⟩ (newD k size) :=
        { lr := RVF.of_own own hFb
          wr := RVF.nil
          lo := lo.mono fun j _ hg => .inl (hFb j hg)
          wo := WaitOK.nil
          s1 := h3
          s2 := h4
          l1 := by simp [newD]; exact h1
          l2 := by simp [newD]; exact h2
          ww := fun x hx => by simp [newD] at hx }
      have hend : ∀ w2, Kept (fun j => j = w.heap.size ∨ j = w.heap.size + 1) wr w2 → RetRef2 w F 0 (newD k size) (.returned (.tuple #[.agg #[.int .i64 (size : Int), .slice AV k kV, .slice none 0 0, .bool false], .int .i64 0])) w2 := by
        intro w2 hk2
        refine ⟨_, ?_, (hm.kept (hk2.mono fun _ _ h => .inr h)).mono (fun _ _ hf => .inl hf), bel.trans (hk2.below (fun k _ hk => by rcases hk with rfl | rfl; exact Nat.le_refl _; exact Nat.le_succ _) bel.size)⟩
        unfold Ref.val
        simp [hL, newD]
      have HEND := Lib.hid hend
      have c0 : wr.cell? ⟨w.heap.size + 1, 0, none⟩ = some (.int .i64 (size : Int)) := box.at_ rfl
      have c1 : wr.cell? ⟨w.heap.size + 1, 1, none⟩ = some (.slice AV k kV) := box.at_ rfl
      have c2 : wr.cell? ⟨w.heap.size + 1, 2, none⟩ = some (.slice none 0 0) := box.at_ rfl
      have c3 : wr.cell? ⟨w.heap.size + 1, 3, none⟩ = some (.bool false) := box.at_ rfl
      have p0 : wr.cell? ⟨w.heap.size, 0, none⟩ = some (.int .i64 0) := res.at_ rfl
      have p1 : wr.cell? ⟨w.heap.size, 1, none⟩ = some (.slice none 0 0) := res.at_ rfl
      have p2 : wr.cell? ⟨w.heap.size, 2, none⟩ = some (.slice none 0 0) := res.at_ rfl
      have p3 : wr.cell? ⟨w.heap.size, 3, none⟩ = some (.bool false) := res.at_ rfl
      have t0 := res.frozen 0
      have t1 := res.frozen 1
      have t2 := res.frozen 2
      have t3 := res.frozen 3
      clear hm hend own lo box res hL hmk hFb
      go_wp2
      refine bodyPost_ret (v := .tuple #[.agg #[.int .i64 (size : Int), .slice AV k kV, .slice none 0 0, .bool false], .int .i64 0]) (by simp [results, Try.results20, go_sem, p0, p1, p2, p3]) rfl (HEND.out _ ?_)
      repeat (first | exact Kept.refl _ _ | refine Kept.setCell ?_ (.inl (.inl rfl)) _ | refine Kept.setCell ?_ (.inl (.inr rfl)) _)
end Go.Proofs.Ytmemkoiooanhkaa
