/-
  The walk of the document's Parse.
-/
import Derived.Test.YtdcjljlppeighaaDoorPurgeRefText
import Derived.Test.YtdcjljlppeighaaDoorPurgeParse
namespace Go.Proofs.YtdcjljlppeighaaDoor
open Go.RowKit PurgeP

def attach (p : Txt) (W : List Txt) : List Txt := (p ++ W.headD []) :: W.tail
/-- What is cut already, and what is left. -/
def Cutting (s : Txt) (ws : List Txt) (f i : Nat) : Prop := wordsS s = ws ++ attach ((s.drop f).take (i - f)) (wordsS (s.drop i))
theorem attach_nil {W : List Txt} (h : W ≠ []) : attach [] W = W := by
  cases W with
  | nil => exact absurd rfl h
  | cons a b => rfl
theorem cut_start (s : Txt) : Cutting s [] 0 0 := by
  unfold Cutting
  simp only [Nat.sub_zero, List.take_zero, List.drop_zero, List.nil_append]
  exact (attach_nil (words_ne s)).symm
theorem cut_blank {s : Txt} {ws : List Txt} {f i : Nat} (h : Cutting s ws f i) (hi : i < s.length) (hc : s[i] = 32) : Cutting s (ws ++ [(s.drop f).take (i - f)]) (i + 1) (i + 1) := by
  unfold Cutting at h ⊢
  rw [h, List.drop_eq_getElem_cons hi, hc]
  rw [show wordsS (32 :: s.drop (i + 1)) = [] :: wordsS (s.drop (i + 1)) by rw [wordsS, if_pos rfl]]
  rw [Nat.sub_self, List.take_zero, attach_nil (words_ne _)]
  simp [attach]
theorem cut_other {s : Txt} {ws : List Txt} {f i : Nat} (h : Cutting s ws f i) (hi : i < s.length) (hf : f ≤ i) (hc : s[i] ≠ 32) : Cutting s ws f (i + 1) := by
  unfold Cutting at h ⊢
  rw [h, List.drop_eq_getElem_cons hi, words_cons _ _ hc]
  congr 1
  have e : (s.drop f).take (i + 1 - f) = (s.drop f).take (i - f) ++ [s[i]] := by
    rw [show i + 1 - f = (i - f) + 1 by omega, List.take_succ_eq_append_getElem (by rw [List.length_drop]; omega)]
    simp [show f + (i - f) = i by omega]
  rw [e]
  simp [attach]
theorem cut_end {s : Txt} {ws : List Txt} {f : Nat} (h : Cutting s ws f s.length) : wordsS s = ws ++ [(s.drop f).take (s.length - f)] := by
  unfold Cutting at h
  rw [h, List.drop_length]
  simp [attach, wordsS]
theorem bstr_cutS (l : List UInt8) (i j : Nat) : (bstr l).extract i j = bstr ((l.drop i).take (j - i)) := by
  unfold bstr
  apply ByteArray.ext
  simp [ByteArray.data_extract]
theorem str_slice (s : Txt) (f i : Nat) (hf : f ≤ i) (hi : i ≤ s.length) (w : World) : (Instr.slice 9 (.string (bstr s)) (some (.int .i64 (f : Int))) (some (.int .i64 (i : Int))) none).run Tryd.prog w = .ok (.string (bstr ((s.drop f).take (i - f)))) w := by
  rw [run_slice_string w 9 (bstr s) .i64 .i64 (f : Int) (i : Int) Tryd.underlying9 (by omega) (by omega) (by rw [bstr_size]; omega), Int.toNat_natCast, Int.toNat_natCast, bstr_cutS]
/-- The words cut so far, in a row of the call's own. -/
def Words (w : World) (s : Txt) (i f : Nat) (v : Value) (wr : World) : Prop :=
  ∃ ws, ((i ≤ s.length ∧ f ≤ i ∧ Cutting s ws f i) ∨ (i = s.length + 1 ∧ ws = wordsS s)) ∧ f ≤ i ∧ wr.ownsRow (w.heap.size + 1) 9 1 v ws.length (cS ws) ∧ ws.length ≤ i ∧ Blk wr w.heap.size 51 #[.int .i64 0, .slice none 0 0, .bool false] ∧ Below w.heap.size w wr
theorem Words.push {w wr w4 : World} {s : Txt} {ii : Nat} {v v4 : Value} {ws : List Txt} {p : Txt} (hw : (ii + 1 ≤ s.length ∧ Cutting s (ws ++ [p]) (ii + 1) (ii + 1)) ∨ (ii = s.length ∧ wordsS s = ws ++ [p])) (hwl : ws.length ≤ ii)
    (own : wr.ownsRow (w.heap.size + 1) 9 1 v ws.length (cS ws)) (own4 : w4.ownsRow (w.heap.size + 1) 9 1 v4 (ws.length + 1) (cS ws ++ [.string (bstr p)])) (o : Obj) (gr : (wr.alloc o).grownBy w4 v.ownBlock)
    (rb : Blk wr w.heap.size 51 #[.int .i64 0, .slice none 0 0, .bool false]) (bel : Below w.heap.size w wr) : Words w s (ii + 1) (ii + 1) v4 w4 := by
  refine ⟨ws ++ [p], ?_, Nat.le_refl _, by simpa [cS] using own4, by simp; omega, ?_, ?_⟩
  · rcases hw with ⟨h1, h2⟩ | ⟨h1, h2⟩
    · exact .inl ⟨h1, Nat.le_refl _, h2⟩
    · exact .inr ⟨by omega, h2.symm⟩
  · exact (gr.block w.heap.size (by have := rb.lt; simp; omega) (fun e => by have := (own.lt _ e.symm).1; omega)).trans (rb.alloc o)
  · exact (bel.alloc bel.size o).grown gr (by have := bel.size; simp; omega) (fun j hj => by have := (own.lt j hj).1; omega)
theorem str_row {w : World} {base : Nat} {v : Value} {ws : List Txt} (h : w.ownsRow base 9 1 v ws.length (cS ws)) (hn : 1 ≤ ws.length) : ∃ g c, v = .slice (some ⟨g, 0, none⟩) ws.length c ∧ base ≤ g ∧ g < w.heap.size ∧ ws.length ≤ c ∧ c ≤ 9223372036854775807 ∧ ∀ k, k < ws.length → w.cell? ⟨g, k, none⟩ = some (.string (bstr (ws.getD k []))) := by
  have h0 := h
  rcases h.2 with ⟨_, h0⟩ | ⟨g, cap, cur, rfl, h1, h2, h3, h4, _⟩
  · omega
  · unfold maxLen at h4
    refine ⟨g, cap, rfl, h1, lt_of_block h2, h3, by omega, fun k hk => ?_⟩
    rw [h0.cellAt _ (by omega)]
    exact cS_getD ws k hk
theorem decR_snoc (l : Txt) (c : UInt8) : decR (l ++ [c]) = 10 * decR l + ((c.toNat : Int) - 48) := by
  unfold decR
  rw [List.foldl_append]
  rfl
theorem decR_bnd (l : Txt) (h : l.all digB = true) : 0 ≤ decR l ∧ decR l < 10 ^ l.length := by
  have key : ∀ (k : Nat) (l : Txt), l.length = k → l.all digB = true → 0 ≤ decR l ∧ decR l < 10 ^ l.length := by
    intro k
    induction k with
    | zero => intro l hl _; obtain rfl : l = [] := by simpa using hl
              decide
    | succ k ih =>
      intro l hl h
      have hne : l ≠ [] := by intro e; rw [e] at hl; simp at hl
      rw [← List.dropLast_concat_getLast hne] at h ⊢
      rw [List.all_append, Bool.and_eq_true] at h
      have h1 := ih l.dropLast (by simp [hl]) h.1
      have h2 := h.2
      generalize l.getLast hne = c at *
      simp only [List.all_cons, List.all_nil, Bool.and_true, digB, Bool.and_eq_true, decide_eq_true_eq] at h2
      rw [decR_snoc, List.length_append, List.length_singleton, Int.pow_succ]
      generalize (10 : Int) ^ l.dropLast.length = T at *
      omega
  exact key _ l rfl h
set_option maxHeartbeats 6400000 in
set_option maxRecDepth 100000 in
theorem rparse_calls (s : Txt) (hs : s.length ≤ 1000) (w : World) : Calls Tryd.prog 31 #[.string (bstr s)] w (RetParse w s) := by
  have hb := get_bAt s
  have hsz : (bstr s).size = s.length := rfl
  have HWM := Lib.hid (words_many s)
  have W0 : Words w s 0 0 (.slice (some ⟨w.heap.size + 1, 0, none⟩) 0 0) ((w.alloc (.cells #[.int .i64 0, .slice none 0 0, .bool false] 51)).alloc (.cells #[] 9)) := by
    have e1 : (w.alloc (.cells #[.int .i64 0, .slice none 0 0, .bool false] 51)).heap.size = w.heap.size + 1 := by simp
    have o := own_empty (w.alloc (.cells #[.int .i64 0, .slice none 0 0, .bool false] 51)) 9 1 (base := w.heap.size + 1) (by omega)
    rw [e1] at o
    exact ⟨[], .inl ⟨by omega, Nat.le_refl _, cut_start s⟩, Nat.le_refl _, o, Nat.le_refl _, (Blk.new w _ _).alloc _, ((Below.refl _ _).alloc (Nat.le_refl _) _).alloc (by simp) _⟩
  go_enter Tryd.func31, Tryd.ntmps31
  go_wp2
  go_loopw [4, 5, 6] (fun v f i wr => ∃ (ii ff : Nat), i = .int .i64 (ii : Int) ∧ f = .int .i64 (ff : Int) ∧ ii ≤ s.length + 1 ∧ Words w s ii ff v wr) (fun _ _ i _ => s.length + 1 - (intOf i).toNat)
  case atStart => exact ⟨0, 0, rfl, rfl, by omega, W0⟩
  case round =>
    obtain ⟨ii, ff, rfl, rfl, hii, ws, hor, hff, own, hwl, rb, bel⟩ := hrel
    obtain ⟨AV, cV, rfl, hcn, hcm⟩ := own_form own
    clear W0
    by_cases hlt : ii ≤ s.length
    · have dec : decide ((ii : Int) ≤ (s.length : Int)) = true := decide_eq_true (by omega)
      have hcut : Cutting s ws ff ii := by
        rcases hor with h | h
        · exact h.2.2
        · omega
      have SL := str_slice s ff ii hff hlt
      have hbs := bel.size
      clear hor
      by_cases he : ii = s.length
      · have de : ((ii : Int) == (s.length : Int)) = true := by rw [beq_iff_eq]; omega
        have hw := cut_end (by rw [← he]; exact hcut)
        have HW : Hid (wordsS s = ws ++ [(s.drop ff).take (ii - ff)]) := by show _ = _; rw [hw, he]
        clear hcut hw he
        have HW : Hid ((ii + 1 ≤ s.length ∧ Cutting s (ws ++ [(s.drop ff).take (ii - ff)]) (ii + 1) (ii + 1)) ∨ (ii = s.length ∧ wordsS s = ws ++ [(s.drop ff).take (ii - ff)])) := .inr ⟨by have := de; rw [beq_iff_eq] at this; omega, HW.out⟩
        generalize (s.drop ff).take (ii - ff) = p at *
        go_wp2_with ((with_reducible show wpList _ _ _ (⟨some 34, _, _, _, _, _⟩ :: _) _ _); refine wpList_append_rv el_string rfl (.tmp 28) (.tmp 33) rfl (w.heap.size + 1) (.slice AV ws.length cV) ws.length (cS ws) rfl (own.alloc _) (some ⟨wr.heap.size, 0, none⟩) 1 1 [.string (bstr p)] rfl rfl (RV.new wr [.string (bstr p)] 9 (0, 0)) (cS_one [p]) ?f2 ?f3 ?f4 ?_)
        case f2 => unfold maxLen; omega
        case f3 => omega
        case f4 => simp; have := rb.lt; omega
        intro v4 w4 own4 gr4 hv4
        have HP := Lib.hid (Words.push (p := p) HW.out hwl own own4 _ gr4 rb bel)
        clear own4 gr4 hv4 own rb HW
        go_wp2
        go_roundw
        case rel => exact ⟨ii + 1, ii + 1, by go_num, by go_num, by omega, HP.out⟩
        case measure => simp [intOf]; omega
      · have de : ((ii : Int) == (s.length : Int)) = false := by rw [beq_eq_false_iff_ne]; omega
        have hi : ii < s.length := by omega
        have hii2 : decide (ii < s.length) = true := decide_eq_true hi
        have hbi := bAt_get hi
        by_cases hc : s[ii] = 32
        · have dc : (bAt s ii == 32) = true := by rw [hbi, hc]; rfl
          have HW : Hid ((ii + 1 ≤ s.length ∧ Cutting s (ws ++ [(s.drop ff).take (ii - ff)]) (ii + 1) (ii + 1)) ∨ (ii = s.length ∧ wordsS s = ws ++ [(s.drop ff).take (ii - ff)])) := .inl ⟨hi, cut_blank hcut hi hc⟩
          clear hcut he hc hbi
          generalize (s.drop ff).take (ii - ff) = p at *
          go_wp2_with ((with_reducible show wpList _ _ _ (⟨some 34, _, _, _, _, _⟩ :: _) _ _); refine wpList_append_rv el_string rfl (.tmp 28) (.tmp 33) rfl (w.heap.size + 1) (.slice AV ws.length cV) ws.length (cS ws) rfl (own.alloc _) (some ⟨wr.heap.size, 0, none⟩) 1 1 [.string (bstr p)] rfl rfl (RV.new wr [.string (bstr p)] 9 (0, 0)) (cS_one [p]) ?f2 ?f3 ?f4 ?_)
          case f2 => unfold maxLen; omega
          case f3 => omega
          case f4 => simp; have := rb.lt; omega
          intro v4 w4 own4 gr4 hv4
          have HP := Lib.hid (Words.push (p := p) HW.out hwl own own4 _ gr4 rb bel)
          clear own4 gr4 hv4 own rb HW
          go_wp2
          go_roundw
          case rel => exact ⟨ii + 1, ii + 1, by go_num, by go_num, by omega, HP.out⟩
          case measure => simp [intOf]; omega
        · have dc : (bAt s ii == 32) = false := by
            rw [hbi, beq_eq_false_iff_ne]
            intro e
            apply hc
            rw [← UInt8.toNat_inj]
            have : s[ii].toNat = 32 := by omega
            rw [this]; rfl
          have HP : Hid (Words w s (ii + 1) ff (.slice AV ws.length cV) wr) := ⟨ws, .inl ⟨hi, by omega, cut_other hcut hi hff hc⟩, by omega, own, by omega, rb, bel⟩
          clear hcut he hc hbi own rb SL
          go_wp2
          go_roundw
          case rel => exact ⟨ii + 1, ff, by go_num, rfl, by omega, HP.out⟩
          case measure => simp [intOf]; omega
    · have dec : decide ((ii : Int) ≤ (s.length : Int)) = false := decide_eq_false (by omega)
      have hW : ws = wordsS s := by
        rcases hor with h | h
        · omega
        · exact h.2
      clear hor
      have HWS := Lib.hid hW
      have hP : Hid (parR s = if ws.length < 3 ∨ 13 < (ws.getD 0 []).length then none else if (ws.getD 0 []).all digB = false then none else
          if rightB (lineW (decR (ws.getD 0 [])) ws) = true ∧ textL (lineW (decR (ws.getD 0 [])) ws) = s then some (lineW (decR (ws.getD 0 [])) ws) else none) := by show _ = _; rw [HWS.out]; rfl
      have hwm := HWM.out
      rw [← hW] at hwm
      clear hW
      have rs : RS wr AV ws := RV.of_own own
      have r0 : wr.cell? ⟨w.heap.size, 0, none⟩ = some (.int .i64 0) := rb.at_ rfl
      have r1 : wr.cell? ⟨w.heap.size, 1, none⟩ = some (.slice none 0 0) := rb.at_ rfl
      have r2 : wr.cell? ⟨w.heap.size, 2, none⟩ = some (.bool false) := rb.at_ rfl
      have f0 := rb.frozen 0
      have f1 := rb.frozen 1
      have f2 := rb.frozen 2
      by_cases h3 : ws.length < 3
      · have d3 : decide ((ws.length : Int) < 3) = true := decide_eq_true (by omega)
        have HN : Hid (parP s = none) := by show _ = _; rw [parPR, hP.out, if_pos (.inl h3)]
        clear h3 hP own rb
        go_wp2
        refine bodyPost_ret (v := .tuple #[.agg #[.int .i64 0, .slice none 0 0, .bool false], .int .i64 2]) (by simp [results, Tryd.results31, go_sem, *]) rfl (RetParse.no HN.out (((bel.setCell (by simp) _).setCell (by simp) _).setCell (by simp) _))
      · have d3 : decide ((ws.length : Int) < 3) = false := decide_eq_false (by omega)
        obtain ⟨g, c, hvg, hgb, hgl, hwc, hc63, hcells⟩ := str_row own (by omega)
        injection hvg with hv1 _ hv3
        subst hv1 hv3
        have w0 := hcells 0 (by omega)
        have hl0 : (0 : Int) < (ws.length : Int) := by omega
        have hl1 : (1 : Int) < (ws.length : Int) := by omega
        by_cases h13 : 13 < (ws.getD 0 []).length
        · have d13 : decide (13 < ((ws.getD 0 []).length : Int)) = true := decide_eq_true (by omega)
          have HN : Hid (parP s = none) := by show _ = _; rw [parPR, hP.out, if_pos (.inr h13)]
          have hz0 := bstr_size (ws.getD 0 [])
          generalize ws.getD 0 [] = k0 at *
          clear h3 hP own rb h13
          go_wp2
          refine bodyPost_ret (v := .tuple #[.agg #[.int .i64 0, .slice none 0 0, .bool false], .int .i64 2]) (by simp [results, Tryd.results31, go_sem, *]) rfl (RetParse.no HN.out (((bel.setCell (by simp) _).setCell (by simp) _).setCell (by simp) _))
        · have d13 : decide (13 < ((ws.getD 0 []).length : Int)) = false := decide_eq_false (by omega)
          have hP2 : Hid (parP s = if (ws.getD 0 []).all digB = false then none else
              if rightB (lineW (decR (ws.getD 0 [])) ws) = true ∧ textL (lineW (decR (ws.getD 0 [])) ws) = s then some (lineW (decR (ws.getD 0 [])) ws) else none) := by show _ = _; rw [parPR, hP.out, if_neg (by omega)]
          have q1 := hcells 1 (by omega)
          have hl2 : (2 : Int) ≤ (ws.length : Int) := by omega
          have hl2n : 2 ≤ ws.length := by omega
          have hne2 : (cV = 2) = False := by rw [eq_iff_iff, iff_false]; omega
          have rk : RS wr (some ⟨g, 2, none⟩) (ws.drop 2) := by
            intro _
            refine ⟨_, _, rfl, hgl, fun j v hj => ?_⟩
            rw [← cS_drop, List.getElem?_drop] at hj
            have hlt2 := (List.getElem?_eq_some_iff.1 hj).1
            rw [own.cellAt _ (by rw [cS_len] at hlt2; omega)]
            exact hj
          have hL : (ws.drop 2).length = ws.length - 2 := List.length_drop
          obtain ⟨hd, hhd⟩ : ∃ hd, ((bstr (ws.getD 1 [])).toList == [104, 97, 114, 100]) = hd := ⟨_, rfl⟩
          have HX : Hid (∀ no, lineW no ws = ⟨no, ws.drop 2, hd⟩) := fun no => by unfold lineW; rw [← hhd, bstr_list]; rfl
          have q1a : ∀ o, (wr.alloc o).cell? ⟨g, 1, none⟩ = some (.string (bstr (ws.getD 1 []))) := fun o => (World.cell?_alloc_lt wr o ⟨g, 1, none⟩ hgl).trans q1
          generalize ws.getD 1 [] = k1 at *
          have hk0 : (ws.getD 0 []).length ≤ 13 := by omega
          generalize ws.getD 0 [] = k0 at *
          have hz0 := bstr_size k0
          have hb0 := get_bAt k0
          have hW3 : 3 ≤ ws.length := by omega
          clear h3 hP h13 own hcells r0 r1 r2 f0 f1 f2 hb rs
          go_wp2_with fail
          go_region
          have xb := (Blk.new wr 51 #[.int .i64 0, .slice (some ⟨g, 2, none⟩) (ws.length - 2) (cV - 2), .bool hd]).drew
          have b4 : Below wr.heap.size wr (wr.alloc (.cells #[.int .i64 0, .slice (some ⟨g, 2, none⟩) (ws.length - 2) (cV - 2), .bool hd] 51)).drew := ((Below.refl _ _).alloc (Nat.le_refl _) _).drew
          generalize (wr.alloc (.cells #[.int .i64 0, .slice (some ⟨g, 2, none⟩) (ws.length - 2) (cV - 2), .bool hd] 51)).drew = w4 at *
          clear q1 q1a hhd d3 d13
          go_wp2
          obtain ⟨wo, rfl⟩ : ∃ wo : World, wo = wr := ⟨_, rfl⟩
          go_loopw [8] (fun i wr => ∃ j : Nat, j ≤ k0.length ∧ i = .int .i64 (j : Int) ∧ (k0.take j).all digB = true ∧ Blk wr wo.heap.size 51 #[.int .i64 (decR (k0.take j)), .slice (some ⟨g, 2, none⟩) (ws.length - 2) (cV - 2), .bool hd] ∧ Below wo.heap.size wo wr) (fun i _ => k0.length - (intOf i).toNat)
          case atStart => exact ⟨0, by omega, rfl, rfl, xb, b4⟩
          case round =>
            obtain ⟨j, hj, rfl, hall, xbl, bl⟩ := hrel
            have v0 : wr.cell? ⟨g, 0, none⟩ = some (.string (bstr k0)) := (bl.cell (p := ⟨g, 0, none⟩) hgl).trans w0
            have rbl := rb.below bl rb.lt
            have Bl := bel.trans (bl.mono bel.size)
            have r0 : wr.cell? ⟨w.heap.size, 0, none⟩ = some (.int .i64 0) := rbl.at_ rfl
            have r1 : wr.cell? ⟨w.heap.size, 1, none⟩ = some (.slice none 0 0) := rbl.at_ rfl
            have r2 : wr.cell? ⟨w.heap.size, 2, none⟩ = some (.bool false) := rbl.at_ rfl
            have f0 := rbl.frozen 0
            have f1 := rbl.frozen 1
            have f2 := rbl.frozen 2
            by_cases hlt : j < k0.length
            · have dj : decide ((j : Int) < (k0.length : Int)) = true := decide_eq_true (by omega)
              have dj' : decide (j < k0.length) = true := decide_eq_true hlt
              have hbj := bAt_get hlt
              have HT := Lib.hid (all_take k0 j hlt digB)
              have HNo := Lib.hid (all_not k0 j hlt digB)
              have hdb := decR_bnd _ hall
              have hp13 : (10 : Int) ^ (k0.take j).length ≤ 10 ^ 13 := by
                have h1 : (k0.take j).length ≤ 13 := by rw [List.length_take]; omega
                exact_mod_cast Nat.pow_le_pow_right (by omega : 0 < 10) h1
              have HS : Hid (decR (k0.take (j + 1)) = 10 * decR (k0.take j) + ((k0[j].toNat : Int) - 48)) := by show _ = _; rw [List.take_succ_eq_append_getElem hlt, decR_snoc]
              have hc255 := k0[j].toNat_lt
              generalize k0[j] = cc at *
              by_cases hz : digB cc = true
              · have hz2 : 48 ≤ cc.toNat ∧ cc.toNat ≤ 57 := by unfold digB at hz; simpa using hz
                have e1 : decide (bAt k0 j < 48) = false := decide_eq_false (by omega)
                have e2 : decide (57 < bAt k0 j) = false := decide_eq_false (by omega)
                have HR : Hid ((k0.take (j + 1)).all digB = true) := by show _ = _; rw [HT.out, hall, hz]; rfl
                have HS2 : Hid (decR (k0.take (j + 1)) = 10 * decR (k0.take j) + bAt k0 j - 48) := by show _ = _; rw [HS.out, hbj]; omega
                have y1 : 0 ≤ bAt k0 j := by omega
                have y2 : bAt k0 j ≤ 57 := by omega
                have y3 : 0 ≤ decR (k0.take j) := hdb.1
                have y4 : decR (k0.take j) ≤ 10000000000000 := by have := hdb.2; omega
                generalize decR (k0.take j) = dd at *
                have x0 : wr.cell? ⟨wo.heap.size, 0, none⟩ = some (.int .i64 dd) := xbl.at_ rfl
                have xf := xbl.frozen 0
                have XN : Hid (Blk (wr.setCell ⟨wo.heap.size, 0, none⟩ (.int .i64 (10 * dd + bAt k0 j - 48))) wo.heap.size 51 #[.int .i64 (10 * dd + bAt k0 j - 48), .slice (some ⟨g, 2, none⟩) (ws.length - 2) (cV - 2), .bool hd]) := xbl.set_ 0 (.int .i64 (10 * dd + bAt k0 j - 48))
                have BN := Lib.hid (bl.setCell (p := ⟨wo.heap.size, 0, none⟩) (Nat.le_refl _) (.int .i64 (10 * dd + bAt k0 j - 48)))
                clear hz hz2 hbj hall HT HNo HS xbl hdb hp13 r0 r1 r2 f0 f1 f2
                go_wp2_with fail
                go_region
                go_wp2
                go_roundw
                case rel => exact ⟨j + 1, by omega, by go_num, HR.out, by rw [HS2.out]; exact XN.out.drew, BN.out.drew⟩
                case measure => simp [intOf]; omega
              · have hz' : digB cc = false := by simpa using hz
                have HN : Hid (parP s = none) := by show _ = _; rw [hP2.out, if_pos (HNo.out hz')]
                have e12 : decide (bAt k0 j < 48) = true ∨ (decide (bAt k0 j < 48) = false ∧ decide (57 < bAt k0 j) = true) := by
                  by_cases a : bAt k0 j < 48
                  · exact .inl (decide_eq_true a)
                  · refine .inr ⟨decide_eq_false a, decide_eq_true ?_⟩
                    rcases Int.lt_or_le 57 (bAt k0 j) with b | b
                    · exact b
                    · exact absurd (show digB cc = true by unfold digB; simp; omega) hz
                clear hz hz' hbj hall HT HNo HS xbl hdb hp13
                rcases e12 with e1 | ⟨e1, e2⟩
                all_goals
                  go_wp2
                  refine bodyPost_ret (v := .tuple #[.agg #[.int .i64 0, .slice none 0 0, .bool false], .int .i64 2]) (by simp [results, Tryd.results31, go_sem, *]) rfl (RetParse.no HN.out (((Bl.setCell (by simp) _).setCell (by simp) _).setCell (by simp) _))
            · have dj : decide ((j : Int) < (k0.length : Int)) = false := decide_eq_false (by omega)
              obtain rfl : j = k0.length := by omega
              rw [List.take_length] at hall xbl
              have HQ : Hid (parP s = if rightB ⟨decR k0, ws.drop 2, hd⟩ = true ∧ textL ⟨decR k0, ws.drop 2, hd⟩ = s then some ⟨decR k0, ws.drop 2, hd⟩ else none) := by show _ = _; rw [hP2.out, if_neg (by rw [hall]; decide), HX.out]
              have hdb := decR_bnd k0 hall
              generalize decR k0 = no at *
              have rkr := rk.below bl
              have x0 : wr.cell? ⟨wo.heap.size, 0, none⟩ = some (.int .i64 no) := xbl.at_ rfl
              have x1 : wr.cell? ⟨wo.heap.size, 1, none⟩ = some (.slice (some ⟨g, 2, none⟩) (ws.length - 2) (cV - 2)) := xbl.at_ rfl
              have x2 : wr.cell? ⟨wo.heap.size, 2, none⟩ = some (.bool hd) := xbl.at_ rfl
              have TC := rtext_calls no (ws.drop 2) hd (some ⟨g, 2, none⟩) (cV - 2) wr rkr (by omega) (by omega)
              rw [hL] at TC
              clear hP2 hall hdb r0 r1 r2 f0 f1 f2
              go_wp2_with fail
              refine TC.mono ?_
              clear TC
              rintro e w5 ⟨rfl, b5⟩
              have rb5 := rbl.below b5 rbl.lt
              have xb5 := xbl.below b5 xbl.lt
              have B5 := Bl.trans (b5.mono Bl.size)
              have rk5 := rkr.below b5
              have r0 : w5.cell? ⟨w.heap.size, 0, none⟩ = some (.int .i64 0) := rb5.at_ rfl
              have r1 : w5.cell? ⟨w.heap.size, 1, none⟩ = some (.slice none 0 0) := rb5.at_ rfl
              have r2 : w5.cell? ⟨w.heap.size, 2, none⟩ = some (.bool false) := rb5.at_ rfl
              have f0 := rb5.frozen 0
              have f1 := rb5.frozen 1
              have f2 := rb5.frozen 2
              clear x0 x1 x2 rbl xbl rk rkr rb xb b4 bl b5
              cases hr : rightB ⟨no, ws.drop 2, hd⟩ with
              | false =>
                have HN : Hid (parP s = none) := by show _ = _; rw [HQ.out, if_neg (by rw [hr]; simp)]
                have HE : Hid (textE ⟨no, ws.drop 2, hd⟩ = 1) := by show _ = _; unfold textE; rw [hr]; rfl
                rw [HE.out]
                generalize textT ⟨no, ws.drop 2, hd⟩ = TT at *
                clear hr HQ HX HE
                go_wp2
                refine bodyPost_ret (v := .tuple #[.agg #[.int .i64 0, .slice none 0 0, .bool false], .int .i64 2]) (by simp [results, Tryd.results31, go_sem, *]) rfl (RetParse.no HN.out (((B5.setCell (by simp) _).setCell (by simp) _).setCell (by simp) _))
              | true =>
                have HE : Hid (textE ⟨no, ws.drop 2, hd⟩ = 0 ∧ textT ⟨no, ws.drop 2, hd⟩ = textL ⟨no, ws.drop 2, hd⟩) := by unfold textE textT; rw [hr]; exact ⟨rfl, rfl⟩
                rw [HE.out.1, HE.out.2]
                have hbq := bstr_list s
                by_cases ht : textL ⟨no, ws.drop 2, hd⟩ = s
                · have HY : Hid (parP s = some ⟨no, ws.drop 2, hd⟩) := by show _ = _; rw [HQ.out, if_pos ⟨hr, ht⟩]
                  have fe : ((bstr (textL ⟨no, ws.drop 2, hd⟩)).toList == (bstr s).toList) = true := by rw [ht]; simp
                  have fe' : (!((bstr (textL ⟨no, ws.drop 2, hd⟩)).toList == (bstr s).toList)) = false := by rw [fe]; rfl
                  have y0 : w5.cell? ⟨wo.heap.size, 0, none⟩ = some (.int .i64 no) := xb5.at_ rfl
                  have y1 : w5.cell? ⟨wo.heap.size, 1, none⟩ = some (.slice (some ⟨g, 2, none⟩) (ws.length - 2) (cV - 2)) := xb5.at_ rfl
                  have y2 : w5.cell? ⟨wo.heap.size, 2, none⟩ = some (.bool hd) := xb5.at_ rfl
                  generalize textL ⟨no, ws.drop 2, hd⟩ = TT at *
                  have hgw : g ≠ w.heap.size := by omega
                  have KS : Kept (fun k => k = w.heap.size) w5 (((w5.setCell ⟨w.heap.size, 0, none⟩ (.int .i64 no)).setCell ⟨w.heap.size, 1, none⟩ (.slice (some ⟨g, 2, none⟩) (ws.drop 2).length (cV - 2))).setCell ⟨w.heap.size, 2, none⟩ (.bool hd)) := Kept.setCell (p := ⟨w.heap.size, 2, none⟩) (Kept.setCell (p := ⟨w.heap.size, 1, none⟩) (Kept.setCell (p := ⟨w.heap.size, 0, none⟩) (Kept.refl (fun k => k = w.heap.size) w5) (.inl rfl) _) (.inl rfl) _) (.inl rfl) _
                  have hRF : RVF w5 (fun k => k = w.heap.size) (some ⟨g, 2, none⟩) (cS (ws.drop 2)) := fun hne => by
                    obtain ⟨b, off, e, h1, h2⟩ := rk5 hne
                    injection e with e
                    injection e with e1 e2
                    subst e1 e2
                    exact ⟨_, _, rfl, h1, hgw, h2⟩
                  have HF := Lib.hid (RetParse.yes (c := cV - 2) HY.out (hRF.kept KS).rv (by rw [hL]; omega) (by omega) (((B5.setCell (p := ⟨w.heap.size, 0, none⟩) (Nat.le_refl _) (.int .i64 no)).setCell (p := ⟨w.heap.size, 1, none⟩) (Nat.le_refl _) (.slice (some ⟨g, 2, none⟩) (ws.drop 2).length (cV - 2))).setCell (p := ⟨w.heap.size, 2, none⟩) (Nat.le_refl _) (.bool hd)))
                  simp only at HF
                  rw [hL] at HF
                  clear hr HQ HX HE ht hbq KS hRF rk5 rb5 xb5 hL
                  go_wp2
                  refine bodyPost_ret (v := .tuple #[.agg #[.int .i64 no, .slice (some ⟨g, 2, none⟩) (ws.length - 2) (cV - 2), .bool hd], .int .i64 0]) (by simp [results, Tryd.results31, go_sem, *]) rfl HF.out
                · have HN : Hid (parP s = none) := by show _ = _; rw [HQ.out, if_neg (fun h => ht h.2)]
                  have fe : ((bstr (textL ⟨no, ws.drop 2, hd⟩)).toList == (bstr s).toList) = false := by rw [bstr_list, bstr_list, beq_eq_false_iff_ne]; exact ht
                  have fe' : (!((bstr (textL ⟨no, ws.drop 2, hd⟩)).toList == (bstr s).toList)) = true := by rw [fe]; rfl
                  generalize textL ⟨no, ws.drop 2, hd⟩ = TT at *
                  clear hr HQ HX HE ht hbq
                  go_wp2
                  refine bodyPost_ret (v := .tuple #[.agg #[.int .i64 0, .slice none 0 0, .bool false], .int .i64 2]) (by simp [results, Tryd.results31, go_sem, *]) rfl (RetParse.no HN.out (((B5.setCell (by simp) _).setCell (by simp) _).setCell (by simp) _))
end Go.Proofs.YtdcjljlppeighaaDoor
