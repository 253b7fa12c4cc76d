/-
  Walks: spans are gathered: one of each two that touch.
-/
import Derived.Test.YtnjcaepbelgpfaaGreatDoorTopStd
import Derived.Test.YtnjcaepbelgpfaaGreatDoorKept
import Derived.Test.YtnjcaepbelgpfaaGreatDoorCutQ
import Derived.Deep.RegionHeld
import Derived.BigQuiet
import Derived.Deep.QuietTactic
namespace Go.Proofs.YtnjcaepbelgpfaaGreatDoor
open Go.RowKit Go.Maps Go.WideMaps TopP Go.Shelf

abbrev Sp := Int × Int
def sC (p : Sp) : List Value := [.int .i64 p.1, .int .i64 p.2]
theorem sC_len : ∀ p, (sC p).length = 2 := fun _ => rfl
theorem sC_one (p : Sp) : ∀ u ∈ sC p, u.oneCell' = true := fun u hu => by
  rcases List.mem_cons.1 hu with rfl | hu
  · rfl
  · rw [List.mem_singleton.1 hu]; rfl
theorem info_spn : (Tryz.prog.info? 48).map (fun i => (i.zero, i.size, i.bytes)) = some (some (.agg #[.int .i64 0, .int .i64 0]), 2, 16) := by kernel_rfl
theorem el_spn : El Tryz.prog 43 48 (.agg #[.int .i64 0, .int .i64 0]) 2 16 := ⟨info_partsV info_spn, Tryz.underlying43, rfl, by decide⟩
/-- Spans in a row of one's own. -/
abbrev Sps (B : Nat) (w : World) (v : Value) (l : List Sp) : Prop := w.ownsRow B 48 2 v l.length (flK sC l)
theorem Sps.nil (B : Nat) (w : World) : Sps B w (.slice none 0 0) [] := ⟨rfl, .inl ⟨rfl, rfl⟩⟩
/-- Span i's cells. -/
theorem sp_at {w : World} {A : Option Addr} {L : List Sp} (h : RV w A (flK sC L)) {i : Nat} (hi : i < L.length) :
    ∃ b off, A = some ⟨b, off, none⟩ ∧ b < w.heap.size ∧ w.cell? ⟨b, off + i * 2, none⟩ = some (.int .i64 L[i].1) ∧ w.cell? ⟨b, off + i * 2 + 1, none⟩ = some (.int .i64 L[i].2) := by
  have h0 : flK sC L ≠ [] := by
    intro e
    have e2 := congrArg List.length e
    rw [flK_len sC_len] at e2
    have e3 : L.length * 2 = 0 := e2
    omega
  obtain ⟨b, off, rfl, hb, hc⟩ := h h0
  have e0 := flK_at sC_len hi (j := 0) (by omega)
  have e1 := flK_at sC_len hi (j := 1) (by omega)
  exact ⟨b, off, rfl, hb, hc (i * 2) _ e0, hc (i * 2 + 1) _ e1⟩
theorem Sps.rv {B : Nat} {w : World} {A : Option Addr} {n c : Nat} {l : List Sp} (h : w.ownsRow B 48 2 (.slice A n c) l.length (flK sC l)) : RV w A (flK sC l) := by
  intro hne
  rcases h.2 with ⟨hv, h0⟩ | ⟨g, cap, cur, hv, _, hh, _, _, _, h6⟩
  · have : l = [] := List.eq_nil_of_length_eq_zero h0
    subst this
    exact absurd rfl hne
  · injection hv with hA
    subst hA
    refine ⟨g, 0, rfl, lt_of_block hh, fun j u hu => ?_⟩
    rw [cell_of_row w g _ cur _ (0, 0) hh, ← Array.getElem?_toList, Nat.zero_add]
    rw [← h6] at hu
    have hj : j < l.length * 2 := by
      rcases Nat.lt_or_ge j (l.length * 2) with h | h
      · exact h
      · rw [List.getElem?_take_eq_none h] at hu; cases hu
    rwa [List.getElem?_take_of_lt hj] at hu
theorem flK_sC_set : ∀ (out : List Sp) (j : Nat) (i : Int), j < out.length → (flK sC out).set (j * 2 + 1) (.int .i64 i) = flK sC (out.set j ((out.getD j default).1, i))
  | [], _, _, h => absurd h (Nat.not_lt_zero _)
  | p :: out, 0, i, _ => rfl
  | p :: out, j + 1, i, h => by
    have ih := flK_sC_set out j i (by simpa using h)
    have e1 : flK sC (p :: out) = .int .i64 p.1 :: .int .i64 p.2 :: flK sC out := rfl
    rw [e1, show (j + 1) * 2 + 1 = (j * 2 + 1) + 1 + 1 by omega, List.set_cons_succ, List.set_cons_succ, ih]
    rfl
/-- The end of span j is set. -/
theorem Sps.set {B : Nat} {w : World} {v : Value} {out : List Sp} (h : Sps B w v out) {j : Nat} (hj : j < out.length) (i : Int) :
    ∃ g cap, v = .slice (some ⟨g, 0, none⟩) out.length cap ∧ B ≤ g ∧ g < w.heap.size ∧ w.frozen? ⟨g, j * 2 + 1, none⟩ = false ∧ Sps B (w.setCell ⟨g, j * 2 + 1, none⟩ (.int .i64 i)) v (out.set j ((out.getD j default).1, i)) := by
  have hl := h.1
  rcases h.2 with ⟨_, h0⟩ | ⟨g, cap, cur, hv, h1, h2, h3, h4, h5, h6⟩
  · omega
  have hb : Blk w g 48 cur := h2
  have hsz : j * 2 + 1 < cur.size := by rw [h5]; omega
  have el : (out.set j ((out.getD j default).1, i)).length = out.length := by simp
  refine ⟨g, cap, hv, h1, hb.lt, hb.frozen _, ?_, .inr ⟨g, cap, cur.setIfInBounds (j * 2 + 1) (.int .i64 i), ?_, h1, hb.set_ _ _, by rw [el]; exact h3, h4, by simpa using h5, ?_⟩⟩
  · rw [flK_len sC_len]
  · rw [el]; exact hv
  · rw [el, Array.toList_setIfInBounds, List.take_set, h6]
    exact flK_sC_set out j i hj
/-- One span more is gathered. -/
def gStep (out : List Sp) (x : Sp) : List Sp :=
  if 0 < out.length ∧ x.1 ≤ (out.getD (out.length - 1) default).2 then out.set (out.length - 1) ((out.getD (out.length - 1) default).1, max (out.getD (out.length - 1) default).2 x.2) else out ++ [x]
theorem gStep_len (out : List Sp) (x : Sp) : (gStep out x).length ≤ out.length + 1 := by
  unfold gStep
  split <;> simp
/-- What the loop holds. -/
structure GatW (w wr : World) (v : Value) (out : List Sp) : Prop where
  own : Sps w.heap.size wr v out
  bel : Below w.heap.size w wr
set_option maxRecDepth 100000 in
set_option maxHeartbeats 3200000 in
theorem gather_calls (w : World) (A : Option Addr) (c : Nat) (l : List Sp) (hl : l.length ≤ 10000) (hR : RV w A (flK sC l)) :
    Calls Tryz.prog 29 #[.slice A l.length c] w fun e w' => ∃ v, e = .returned v ∧ Sps w.heap.size w' v (l.foldl gStep []) ∧ Below w.heap.size w w' := by
  obtain ⟨res, hres⟩ : ∃ x, x = l.foldl gStep [] := ⟨_, rfl⟩
  rw [← hres]
  replace hres := Lib.hid hres
  go_enter Tryz.func29, Tryz.ntmps29
  go_wp2_with fail
  go_loopw [3, 9] (fun v i wr => ∃ (k : Nat) (out : List Sp), k ≤ l.length ∧ i = .int .i64 (k : Int) ∧ Hid (res = (l.drop k).foldl gStep out) ∧ out.length ≤ k ∧ GatW w wr v out) (fun _ i _ => l.length - (intOf i).toNat)
  case atStart => exact ⟨0, [], Nat.zero_le _, rfl, by simpa using hres, Nat.le_refl _, Sps.nil _ _, Below.refl _ _⟩
  case round =>
  clear hres
  obtain ⟨k, out, hk, rfl, hR1, hol, S⟩ := hrel
  obtain ⟨A1, cc, hv, hnc, hcm⟩ := own_form S.own
  subst hv
  by_cases hlt : k < l.length
  case neg =>
    obtain rfl : k = l.length := by omega
    have dec : decide ((l.length : Int) < (l.length : Int)) = false := decide_eq_false (by omega)
    have hR2 : Hid (res = out) := by show _ = _; rw [hR1.out, List.drop_length]; rfl
    clear hR1
    go_wp2_with fail
    go_ret
    exact ⟨_, rfl, by rw [hR2.out]; exact S.own, S.bel⟩
  have dec : decide ((k : Int) < (l.length : Int)) = true := decide_eq_true (by omega)
  have dec' : decide (k < l.length) = true := decide_eq_true hlt
  obtain ⟨b, off, rfl, hbs, e0, e1⟩ := sp_at (hR.below S.bel) hlt
  have hR2 : Hid (res = (l.drop (k + 1)).foldl gStep (gStep out l[k])) := by show _ = _; rw [hR1.out, List.drop_eq_getElem_cons hlt]; rfl
  generalize l[k] = x at *
  obtain ⟨x1, x2⟩ := x
  clear hR1
  go_upto_region 5 with fail
  have bP := Blk.new wr 48 #[.int .i64 x1, .int .i64 x2]
  have dP := (Below.refl wr.heap.size wr).alloc (Nat.le_refl _) (.cells #[.int .i64 x1, .int .i64 x2] 48)
  revert bP dP
  generalize (wr.alloc (.cells #[.int .i64 x1, .int .i64 x2] 48)) = w2
  intro bP dP
  have S2 : GatW w w2 (.slice A1 out.length cc) out := ⟨own_below S.own dP fun j hj => (S.own.lt j hj).2, S.bel.trans (dP.mono S.bel.size)⟩
  have hPo : ∀ g, (Value.slice A1 out.length cc).ownBlock = some g → g ≠ wr.heap.size := fun g hg => by have := (S.own.lt g hg).2; omega
  have hPw : w.heap.size ≤ wr.heap.size := S.bel.size
  obtain ⟨gP, hgP⟩ : ∃ g, g = wr.heap.size := ⟨_, rfl⟩
  rw [← hgP] at bP hPo hPw ⊢
  replace hPo := Lib.hid hPo
  clear hgP S dP e0 e1 hbs
  have p0 := bP.at_ (i := 0) (v := .int .i64 x1) rfl
  have p1 := bP.at_ (i := 1) (v := .int .i64 x2) rfl
  have KN : Hid (∀ q, GatW w (w2.drewN q) (.slice A1 out.length cc) out ∧ Blk (w2.drewN q) gP 48 #[.int .i64 x1, .int .i64 x2]) := fun q => ⟨⟨S2.own, ⟨S2.bel.os, S2.bel.tape, S2.bel.output, S2.bel.size, S2.bel.block⟩⟩, bP.drewN q⟩
  have HA : Hid (∀ (w3 w6 : World) (v6 : Value), GatW w w3 (.slice A1 out.length cc) out → w6.ownsRow w.heap.size 48 2 v6 (out.length + 1) (flK sC out ++ sC (x1, x2)) → (w3.alloc (.cells #[.int .i64 x1, .int .i64 x2] 48)).grownBy w6 (Value.slice A1 out.length cc).ownBlock → GatW w w6 v6 (out ++ [(x1, x2)])) := fun w3 w6 v6 S3 o g => ⟨by
      have e : (out ++ [(x1, x2)]).length = out.length + 1 := by simp
      show w6.ownsRow _ _ _ _ _ _
      rw [e, flK_append, flK_one]
      exact o, Below.grown (S3.bel.alloc S3.bel.size _) g (Nat.le_trans S3.bel.size (by simp)) fun j hj => (S3.own.lt j hj).1⟩
  rcases List.eq_nil_or_concat out with hnil | ⟨ini, z, hcat⟩
  · subst hnil
    have hR3 : Hid (res = (l.drop (k + 1)).foldl gStep [(x1, x2)]) := hR2
    clear hR2
    go_upto_region 6 with fail
    go_quiet (fail)
    obtain ⟨S3, bP3⟩ := KN.out nq
    revert S3 bP3
    clear p0 p1 KN S2 bP
    generalize w2.drewN nq = w3
    intro S3 bP3
    have p0 := bP3.at_ (i := 0) (v := .int .i64 x1) rfl
    have p1 := bP3.at_ (i := 1) (v := .int .i64 x2) rfl
    have rv1 : RV (w3.alloc (.cells #[.int .i64 x1, .int .i64 x2] 48)) (some ⟨w3.heap.size, 0, none⟩) (sC (x1, x2)) := RV.new w3 (sC (x1, x2)) 48 (0, 0)
    have oA : (w3.alloc (.cells #[.int .i64 x1, .int .i64 x2] 48)).ownsRow w.heap.size 48 2 (.slice A1 ([] : List Sp).length cc) ([] : List Sp).length (flK sC ([] : List Sp)) := S3.own.alloc _
    have hbs3 := S3.bel.size
    go_upto_region 8 with fail
    with_reducible refine wp_region_lit ?_
    with_reducible refine wpList_cutAt 3 ?_
    simp only [List.take_succ_cons, List.take_zero, List.drop_succ_cons, List.drop_zero]
    go_wp2_with fail
    with_reducible refine CutQ.go_ ?_
    with_reducible refine wpList_append_rv el_spn (by kernel_rfl) (.tmp 42) (.tmp 44) rfl w.heap.size (.slice A1 ([] : List Sp).length cc) ([] : List Sp).length (flK sC ([] : List Sp)) (by kernel_rfl) oA (some ⟨w3.heap.size, 0, none⟩) 1 1 (sC (x1, x2)) (by kernel_rfl) (by kernel_rfl) rv1 (sC_one _) ?f2 ?f3 ?f4 ?_
    case f2 => (try simp only [List.length_nil]); unfold maxLen; omega
    case f3 => (try simp only [List.length_nil]); omega
    case f4 => exact Nat.le_trans hbs3 (by simp)
    intro v6 w6 own6 gr6 hv6
    have S6 := HA.out w3 w6 v6 S3 own6 gr6
    clear own6 gr6 hv6 S3 HA rv1 oA p0 p1 bP3
    go_frame
    go_wp2_with fail
    exact ⟨⟨k + 1, [(x1, x2)], by omega, by rw [show ((k : Int) + 1) = ((k + 1 : Nat) : Int) by omega], hR3, by simp, S6⟩, by
      rw [show ((k : Int) + 1) = ((k + 1 : Nat) : Int) by omega]
      simp only [intOf, Int.toNat_natCast]
      omega⟩
  · rw [List.concat_eq_append] at hcat
    subst hcat
    obtain ⟨z1, z2⟩ := z
    obtain ⟨m, hm⟩ : ∃ m, m = ini.length := ⟨_, rfl⟩
    have hlm : (ini ++ [(z1, z2)]).length = m + 1 := by rw [hm]; simp
    have hgl : gStep (ini ++ [(z1, z2)]) (x1, x2) = if x1 ≤ z2 then ini ++ [(z1, max z2 x2)] else ini ++ [(z1, z2)] ++ [(x1, x2)] := by
      unfold gStep
      rw [hlm]
      have e : (ini ++ [(z1, z2)]).getD (m + 1 - 1) default = (z1, z2) := by simp [List.getD, hm]
      rw [e]
      by_cases h : x1 ≤ z2
      · rw [if_pos ⟨by omega, h⟩, if_pos h]
        simp [hm]
      · rw [if_neg (fun q => h q.2), if_neg h]
    rw [hgl] at hR2
    have hj : m < (ini ++ [(z1, z2)]).length := by omega
    have hlast : (ini ++ [(z1, z2)]).getD m default = (z1, z2) := by simp [List.getD, hm]
    obtain ⟨g, cap, hv, hgB, hgl2, hgf, hset⟩ := S2.own.set hj (max z2 x2)
    injection hv with hA _ hcp
    subst hA
    subst hcp
    have hSet : Hid (Sps w.heap.size (w2.setCell ⟨g, m * 2 + 1, none⟩ (.int .i64 (max z2 x2))) (.slice (some ⟨g, 0, none⟩) (m + 1) cc) (ini ++ [(z1, max z2 x2)])) := by
      rw [hlast, hlm] at hset
      have e : (ini ++ [(z1, z2)]).set m (z1, max z2 x2) = ini ++ [(z1, max z2 x2)] := by rw [hm]; simp
      rw [e] at hset
      exact hset
    have hz : w2.cell? ⟨g, m * 2 + 1, none⟩ = some (.int .i64 z2) := by
      obtain ⟨b3, off3, hA3, _, _, hc3⟩ := sp_at (Sps.rv S2.own) hj
      injection hA3 with hA3
      injection hA3 with hb3 ho3
      subst hb3
      subst ho3
      rw [Nat.zero_add] at hc3
      have e : (ini ++ [(z1, z2)])[m] = (z1, z2) := by simp [hm]
      rw [e] at hc3
      exact hc3
    have hzd : ∀ q, (w2.drewN q).cell? ⟨g, m * 2 + 1, none⟩ = some (.int .i64 z2) := fun q => hz
    clear hset hgl
    by_cases hx : x1 ≤ z2
    · rw [if_pos hx] at hR2
      have dx : decide (x1 ≤ z2) = true := decide_eq_true hx
      rw [hlm] at hPo KN HA S2
      have hol2 : m + 1 ≤ k := by omega
      have hBel : Hid (Below w.heap.size w (w2.setCell ⟨g, m * 2 + 1, none⟩ (.int .i64 (max z2 x2)))) := S2.bel.setCell hgB _
      rw [hlm]
      clear hlm hj hlast hm hPo
      go_upto_region 6 with fail
      go_quiet (fail)
      have S3 := (KN.out nq).1
      have bP3 := (KN.out nq).2
      have z3 := hzd nq
      have hSet3 : Hid (Sps w.heap.size ((w2.drewN nq).setCell ⟨g, m * 2 + 1, none⟩ (.int .i64 (max z2 x2))) (.slice (some ⟨g, 0, none⟩) (m + 1) cc) (ini ++ [(z1, max z2 x2)])) := hSet
      have hBel3 : Hid (Below w.heap.size w ((w2.drewN nq).setCell ⟨g, m * 2 + 1, none⟩ (.int .i64 (max z2 x2)))) := S3.bel.setCell hgB _
      have hf3 : (w2.drewN nq).frozen? ⟨g, m * 2 + 1, none⟩ = false := hgf
      revert S3 bP3 z3 hSet3 hBel3 hf3
      clear p0 p1 KN HA S2 bP hz hzd hSet hBel hgf
      generalize w2.drewN nq = w3
      intro S3 bP3 z3 hSet3 hBel3 hf3
      have p0 := bP3.at_ (i := 0) (v := .int .i64 x1) rfl
      have p1 := bP3.at_ (i := 1) (v := .int .i64 x2) rfl
      have hln : (ini ++ [(z1, max z2 x2)]).length ≤ k + 1 := by
        have := hSet3.out.1
        have e2 := hSet3.out.2
        simp
        have hle : ini.length + 1 = m + 1 := by
          rcases e2 with ⟨h0, _⟩ | ⟨_, _, _, hv2, _⟩
          · cases h0
          · injection hv2 with _ h3 _
            simpa using h3.symm
        omega
      have S4 : Hid (GatW w ((w3.drew).setCell ⟨g, m * 2 + 1, none⟩ (.int .i64 (max z2 x2))) (.slice (some ⟨g, 0, none⟩) (m + 1) cc) (ini ++ [(z1, max z2 x2)])) := ⟨hSet3.out, ⟨hBel3.out.os, hBel3.out.tape, hBel3.out.output, hBel3.out.size, hBel3.out.block⟩⟩
      replace hln := Lib.hid hln
      clear hSet3 hBel3
      go_upto_region 7 with fail
      go_region
      go_wp2_with fail
      exact ⟨⟨k + 1, ini ++ [(z1, max z2 x2)], by omega, by rw [show ((k : Int) + 1) = ((k + 1 : Nat) : Int) by omega], hR2, hln.out, S4.out⟩, by
        rw [show ((k : Int) + 1) = ((k + 1 : Nat) : Int) by omega]
        simp only [intOf, Int.toNat_natCast]
        omega⟩
    · rw [if_neg hx] at hR2
      have dx : decide (x1 ≤ z2) = false := decide_eq_false hx
      rw [hlm] at hPo KN HA S2
      have hol2 : m + 1 ≤ k := by omega
      rw [hlm]
      obtain ⟨OUT, hOUT⟩ : ∃ o, o = ini ++ [(z1, z2)] := ⟨_, rfl⟩
      rw [← hOUT] at hlm KN HA S2 hR2 hol hnc
      have hln : Hid ((OUT ++ [(x1, x2)]).length ≤ k + 1) := by show _ ≤ _; simp [hlm]; omega
      clear hj hlast hm hPo
      go_upto_region 6 with fail
      go_quiet (fail)
      have S3 := (KN.out nq).1
      have bP3 := (KN.out nq).2
      revert S3 bP3
      clear p0 p1 KN S2 bP hz hzd hgf hSet hOUT
      generalize w2.drewN nq = w3
      intro S3 bP3
      have p0 := bP3.at_ (i := 0) (v := .int .i64 x1) rfl
      have p1 := bP3.at_ (i := 1) (v := .int .i64 x2) rfl
      replace hlm := Lib.hid hlm
      have rv1 : RV (w3.alloc (.cells #[.int .i64 x1, .int .i64 x2] 48)) (some ⟨w3.heap.size, 0, none⟩) (sC (x1, x2)) := RV.new w3 (sC (x1, x2)) 48 (0, 0)
      have oA : (w3.alloc (.cells #[.int .i64 x1, .int .i64 x2] 48)).ownsRow w.heap.size 48 2 (.slice (some ⟨g, 0, none⟩) (m + 1) cc) (m + 1) (flK sC OUT) := by have := S3.own.alloc (.cells #[.int .i64 x1, .int .i64 x2] 48); rwa [hlm.out] at this
      have hbs3 := S3.bel.size
      go_upto_region 8 with fail
      with_reducible refine wp_region_lit ?_
      with_reducible refine wpList_cutAt 3 ?_
      simp only [List.take_succ_cons, List.take_zero, List.drop_succ_cons, List.drop_zero]
      go_wp2_with fail
      with_reducible refine CutQ.go_ ?_
      with_reducible refine wpList_append_rv el_spn (by kernel_rfl) (.tmp 42) (.tmp 44) rfl w.heap.size (.slice (some ⟨g, 0, none⟩) (m + 1) cc) (m + 1) (flK sC OUT) (by kernel_rfl) oA (some ⟨w3.heap.size, 0, none⟩) 1 1 (sC (x1, x2)) (by kernel_rfl) (by kernel_rfl) rv1 (sC_one _) ?f2 ?f3 ?f4 ?_
      case f2 => (try simp only [List.length_append, List.length_cons, List.length_nil]); unfold maxLen; omega
      case f3 => (try simp only [List.length_append, List.length_cons, List.length_nil]); omega
      case f4 => exact Nat.le_trans hbs3 (by simp)
      intro v6 w6 own6 gr6 hv6
      have S6 := HA.out w3 w6 v6 S3 own6 gr6
      clear own6 gr6 hv6 S3 HA rv1 oA p0 p1 bP3
      go_frame
      go_wp2_with fail
      exact ⟨⟨k + 1, OUT ++ [(x1, x2)], by omega, by rw [show ((k : Int) + 1) = ((k + 1 : Nat) : Int) by omega], hR2, hln.out, S6⟩, by
        rw [show ((k : Int) + 1) = ((k + 1 : Nat) : Int) by omega]
        simp only [intOf, Int.toNat_natCast]
        omega⟩
end Go.Proofs.YtnjcaepbelgpfaaGreatDoor
