/-
  The walk of the program's Parse.
-/
import Derived.Test.YtdcjljlppeighaaDoorPurgeWords
namespace Go.Proofs.YtdcjljlppeighaaDoor
open Go.RowKit PurgeP

theorem map_bstr {l : List ByteArray} {ws : List Txt} (h : l.map (·.data.toList) = ws) : l = ws.map bstr := by
  rw [← h, List.map_map]
  conv => lhs; rw [← List.map_id l]
  apply List.map_congr_left
  intro x _
  simp [bstr]
theorem split_calls (s : Txt) (hs : s.length ≤ 1000000) (w : World) (hS : Std w) :
    Calls Tryd.prog 52 #[.string (bstr s), .string ⟨#[32]⟩] w fun e w' => e = .returned (.slice (some ⟨w.heap.size, 0, none⟩) (wordsS s).length (wordsS s).length) ∧ w' = w.alloc (.cells (cS (wordsS s)).toArray 9) := by
  obtain ⟨m, hm⟩ := hS.2.2.2
  have e1 : (bstr s).data.toList = s := by simp [bstr]
  have hc : Lib.countB (bstr s) ⟨#[32]⟩ = Lib.count s [32] := by unfold Lib.countB; rw [e1]
  have hl : Lib.splitB ⟨#[32]⟩ 0 (Lib.countB (bstr s) ⟨#[32]⟩) (bstr s) = (wordsS s).map bstr := by
    refine map_bstr ?_
    rw [Lib.splitB_data, hc, e1]
    exact split_words s
  have hn : Lib.countB (bstr s) ⟨#[32]⟩ + 1 = (wordsS s).length := by
    have := Lib.splitB_all ⟨#[32]⟩ (by decide) 0 _ (bstr s) rfl
    rw [hl, List.length_map] at this
    exact this.symm
  refine (Tryd.strings_Split (bstr s) ⟨#[32]⟩ m w (by rw [bstr_size]; omega) hm (by decide)).mono ?_
  rintro e w' ⟨rfl, rfl⟩
  rw [hn, hl, List.map_map]
  exact ⟨rfl, rfl⟩
/-- What Parse gives back. -/
def RetParse (w : World) (s : Txt) (e : Ending) (w' : World) : Prop :=
  ∃ A c, e = .returned (.tuple #[.agg #[.int .i64 (parL s).no, .slice A (parL s).keys.length c, .bool (parL s).hard], .int .i64 (parE s)]) ∧ RS w' A (parL s).keys ∧ (parL s).keys.length ≤ c ∧ c ≤ 9223372036854775807 ∧ Below w.heap.size w w'
theorem RetParse.no {w w' : World} {s : Txt} (h : parP s = none) (b : Below w.heap.size w w') : RetParse w s (.returned (.tuple #[.agg #[.int .i64 0, .slice none 0 0, .bool false], .int .i64 2])) w' := by
  have e1 : parL s = ⟨0, [], false⟩ := by unfold parL; rw [h]; rfl
  have e2 : parE s = 2 := by unfold parE; rw [h]; rfl
  rw [RetParse, e1, e2]
  exact ⟨none, 0, rfl, RV.nil, Nat.le_refl _, by omega, b⟩
theorem RetParse.yes {w w' : World} {s : Txt} {x : Ln} (h : parP s = some x) {A : Option Addr} {c : Nat} (hr : RS w' A x.keys) (h1 : x.keys.length ≤ c) (h2 : c ≤ 9223372036854775807) (b : Below w.heap.size w w') :
    RetParse w s (.returned (.tuple #[.agg #[.int .i64 x.no, .slice A x.keys.length c, .bool x.hard], .int .i64 0])) w' := by
  have e1 : parL s = x := by unfold parL; rw [h]; rfl
  have e2 : parE s = 0 := by unfold parE; rw [h]; rfl
  rw [RetParse, e1, e2]
  exact ⟨A, c, rfl, hr, h1, h2, b⟩
theorem words_lens : ∀ (s : Txt), ∀ k ∈ wordsS s, k.length ≤ s.length
  | [], k, hk => by simp [wordsS] at hk; subst hk; simp
  | c :: r, k, hk => by
    have ih := words_lens r
    unfold wordsS at hk
    split at hk
    · rcases List.mem_cons.1 hk with rfl | hk
      · simp
      · have := ih k hk; simp; omega
    · have hne := words_ne r
      rcases List.mem_cons.1 hk with rfl | hk
      · have : (wordsS r).headD [] ∈ wordsS r := by
          cases h : wordsS r with
          | nil => exact absurd h hne
          | cons a b => simp
        have := ih _ this
        simp only [List.length_cons]; omega
      · have := ih k (List.mem_of_mem_tail hk); simp; omega
theorem words_many : ∀ (s : Txt), (wordsS s).length ≤ s.length + 1
  | [] => by simp [wordsS]
  | c :: r => by
    have ih := words_many r
    have hne := words_ne r
    unfold wordsS
    split
    · simp; exact ih
    · cases h : wordsS r with
      | nil => exact absurd h hne
      | cons a b => rw [h] at ih; simp at ih ⊢; omega
theorem pnum_none {l : Txt} (h : pnum l = none) : ∀ v, Lib.parseIntB 64 l ≠ .ok v := by
  intro v e
  unfold pnum at h
  rw [e] at h
  cases h
theorem pnum_some {l : Txt} {v : Int} (h : pnum l = some v) : Lib.parseIntB 64 l = .ok v := by
  unfold pnum at h
  split at h
  · rename_i v' e
    injection h with h
    rw [e, h]
  · cases h
set_option maxHeartbeats 3200000 in
set_option maxRecDepth 100000 in
theorem parse_calls (s : Txt) (hs : s.length ≤ 1000) (w : World) (hS : Std w) : Calls Tryd.prog 30 #[.string (bstr s)] w (RetParse w s) := by
  have B1 : Below w.heap.size w (w.alloc (.cells #[.int .i64 0, .slice none 0 0, .bool false] 54)) := (Below.refl _ _).alloc (Nat.le_refl _) _
  have rb := Blk.new w 54 #[.int .i64 0, .slice none 0 0, .bool false]
  have hwm := words_many s
  have hwl := words_lens s
  have hP : Hid (parP s = if (wordsS s).length < 3 then none else (pnum ((wordsS s).getD 0 [])).bind fun no => if rightB (lineW no (wordsS s)) = true ∧ textL (lineW no (wordsS s)) = s then some (lineW no (wordsS s)) else none) := rfl
  have SC := split_calls s (by omega) _ (hS.below B1)
  generalize wordsS s = W at *
  have hbq := bstr_list s
  go_enter Tryd.func30, Tryd.ntmps30
  go_wp2_with fail
  generalize w.alloc (.cells #[.int .i64 0, .slice none 0 0, .bool false] 54) = w1 at *
  refine SC.mono ?_
  clear SC
  rintro e w2 ⟨rfl, ew2⟩
  have wb : Blk w2 w1.heap.size 9 (cS W).toArray := by rw [ew2]; exact Blk.new w1 _ _
  have b2 : Below w1.heap.size w1 w2 := by rw [ew2]; exact (Below.refl _ _).alloc (Nat.le_refl _) _
  clear ew2
  have rb2 := rb.below b2 rb.lt
  have B2 := B1.trans (b2.mono B1.size)
  have r0 : w2.cell? ⟨w.heap.size, 0, none⟩ = some (.int .i64 0) := rb2.at_ rfl
  have r1 : w2.cell? ⟨w.heap.size, 1, none⟩ = some (.slice none 0 0) := rb2.at_ rfl
  have r2 : w2.cell? ⟨w.heap.size, 2, none⟩ = some (.bool false) := rb2.at_ rfl
  have f0 := rb2.frozen 0
  have f1 := rb2.frozen 1
  have f2 := rb2.frozen 2
  by_cases h3 : W.length < 3
  · have d3 : decide ((W.length : Int) < 3) = true := decide_eq_true (by omega)
    have HN : Hid (parP s = none) := by show _ = _; rw [hP.out, if_pos h3]
    clear h3 hP hwl
    go_wp2
    refine bodyPost_ret (v := .tuple #[.agg #[.int .i64 0, .slice none 0 0, .bool false], .int .i64 2]) (by simp [results, Tryd.results30, go_sem, *]) rfl (RetParse.no HN.out (((B2.setCell (by simp) _).setCell (by simp) _).setCell (by simp) _))
  · have d3 : decide ((W.length : Int) < 3) = false := decide_eq_false (by omega)
    have w0 : w2.cell? ⟨w1.heap.size, 0, none⟩ = some (.string (bstr (W.getD 0 []))) := wb.at_ (by simpa using cS_getD W 0 (by omega))
    have w1c : w2.cell? ⟨w1.heap.size, 1, none⟩ = some (.string (bstr (W.getD 1 []))) := wb.at_ (by simpa using cS_getD W 1 (by omega))
    have hW0 : (W.getD 0 []).length ≤ 1000 := by
      have hm : W.getD 0 [] ∈ W := by rw [List.getD_eq_getElem?_getD, List.getElem?_eq_getElem (by omega)]; exact List.getElem_mem _
      exact Nat.le_trans (hwl _ hm) hs
    have hl3 : (0 : Int) < (W.length : Int) := by omega
    have hl4 : (1 : Int) < (W.length : Int) := by omega
    cases hp : pnum (W.getD 0 []) with
    | none =>
      have HN : Hid (parP s = none) := by show _ = _; rw [hP.out, if_neg h3, hp]; rfl
      have PN := pint_no _ (pnum_none hp) hW0 w2 (hS.below B2)
      clear h3 hP hwl hp
      go_wp2_with fail
      refine PN.mono ?_
      clear PN
      rintro e w3 ⟨v3, N3, rfl, b3⟩
      have rb3 := rb2.below b3 rb2.lt
      have B3 := B2.trans (b3.mono B2.size)
      have r0 : w3.cell? ⟨w.heap.size, 0, none⟩ = some (.int .i64 0) := rb3.at_ rfl
      have r1 : w3.cell? ⟨w.heap.size, 1, none⟩ = some (.slice none 0 0) := rb3.at_ rfl
      have r2 : w3.cell? ⟨w.heap.size, 2, none⟩ = some (.bool false) := rb3.at_ rfl
      have f0 := rb3.frozen 0
      have f1 := rb3.frozen 1
      have f2 := rb3.frozen 2
      go_wp2
      refine bodyPost_ret (v := .tuple #[.agg #[.int .i64 0, .slice none 0 0, .bool false], .int .i64 2]) (by simp [results, Tryd.results30, go_sem, *]) rfl (RetParse.no HN.out (((B3.setCell (by simp) _).setCell (by simp) _).setCell (by simp) _))
    | some no =>
      have HQ : Hid (parP s = if rightB (lineW no W) = true ∧ textL (lineW no W) = s then some (lineW no W) else none) := by show _ = _; rw [hP.out, if_neg h3, hp]; rfl
      have hW3 : 3 ≤ W.length := by omega
      have PO := pint_ok _ no (pnum_some hp) hW0 w2
      clear h3 hP hwl hp
      go_wp2_with fail
      refine PO.mono ?_
      clear PO
      rintro e w3 ⟨rfl, b3⟩
      have rb3 := rb2.below b3 rb2.lt
      have wb3 := wb.below b3 wb.lt
      have B3 := B2.trans (b3.mono B2.size)
      have q1 : w3.cell? ⟨w1.heap.size, 1, none⟩ = some (.string (bstr (W.getD 1 []))) := wb3.at_ (by simpa using cS_getD W 1 (by omega))
      have q1a : ∀ o, (w3.alloc o).cell? ⟨w1.heap.size, 1, none⟩ = some (.string (bstr (W.getD 1 []))) := fun o => (wb3.alloc o).at_ (by simpa using cS_getD W 1 (by omega))
      have hl2 : (2 : Int) ≤ (W.length : Int) := by omega
      have hl2n : 2 ≤ W.length := by omega
      have hne2 : (W.length = 2) = False := by rw [eq_iff_iff, iff_false]; omega
      have rk3 : RS w3 (some ⟨w1.heap.size, 2, none⟩) (W.drop 2) := by
        intro _
        refine ⟨_, _, rfl, wb3.lt, fun j v hj => ?_⟩
        rw [← cS_drop, List.getElem?_drop] at hj
        exact wb3.at_ (by simpa using hj)
      have hL : (W.drop 2).length = W.length - 2 := List.length_drop
      obtain ⟨hd, hhd⟩ : ∃ hd, ((bstr (W.getD 1 [])).toList == [104, 97, 114, 100]) = hd := ⟨_, rfl⟩
      have HX : Hid (lineW no W = ⟨no, W.drop 2, hd⟩) := by show _ = _; unfold lineW; rw [← hhd, bstr_list]; rfl
      generalize W.getD 1 [] = k1 at *
      clear w0 w1c r0 r1 r2 f0 f1 f2 rb rb2 wb
      go_wp2_with fail
      go_region
      have xb := (Blk.new w3 54 #[.int .i64 no, .slice (some ⟨w1.heap.size, 2, none⟩) (W.length - 2) (W.length - 2), .bool hd]).drew
      have b4 : Below w3.heap.size w3 (w3.alloc (.cells #[.int .i64 no, .slice (some ⟨w1.heap.size, 2, none⟩) (W.length - 2) (W.length - 2), .bool hd] 54)).drew := ((Below.refl _ _).alloc (Nat.le_refl _) _).drew
      generalize (w3.alloc (.cells #[.int .i64 no, .slice (some ⟨w1.heap.size, 2, none⟩) (W.length - 2) (W.length - 2), .bool hd] 54)).drew = w4 at *
      have rb4 := rb3.below b4 rb3.lt
      have B4 := B3.trans (b4.mono B3.size)
      have rk4 := rk3.below b4
      have x0 : w4.cell? ⟨w3.heap.size, 0, none⟩ = some (.int .i64 no) := xb.at_ rfl
      have x1 : w4.cell? ⟨w3.heap.size, 1, none⟩ = some (.slice (some ⟨w1.heap.size, 2, none⟩) (W.length - 2) (W.length - 2)) := xb.at_ rfl
      have x2 : w4.cell? ⟨w3.heap.size, 2, none⟩ = some (.bool hd) := xb.at_ rfl
      have TC := text_calls no (W.drop 2) hd (some ⟨w1.heap.size, 2, none⟩) (W.length - 2) w4 (hS.below B4) rk4 (by omega) (by omega)
      rw [hL] at TC
      clear q1 q1a hhd
      go_wp2_with fail
      refine TC.mono ?_
      clear TC
      rintro e w5 ⟨rfl, b5⟩
      have rb5 := rb4.below b5 rb4.lt
      have xb5 := xb.below b5 xb.lt
      have B5 := B4.trans (b5.mono B4.size)
      have rk5 := rk4.below b5
      have r0 : w5.cell? ⟨w.heap.size, 0, none⟩ = some (.int .i64 0) := rb5.at_ rfl
      have r1 : w5.cell? ⟨w.heap.size, 1, none⟩ = some (.slice none 0 0) := rb5.at_ rfl
      have r2 : w5.cell? ⟨w.heap.size, 2, none⟩ = some (.bool false) := rb5.at_ rfl
      have f0 := rb5.frozen 0
      have f1 := rb5.frozen 1
      have f2 := rb5.frozen 2
      clear x0 x1 x2 rb3 rb4 xb rk3 rk4 b3 b4 b5 wb3
      cases hr : rightB ⟨no, W.drop 2, hd⟩ with
      | false =>
        have HN : Hid (parP s = none) := by show _ = _; rw [HQ.out, HX.out, if_neg (by rw [hr]; simp)]
        have HE : Hid (textE ⟨no, W.drop 2, hd⟩ = 1) := by show _ = _; unfold textE; rw [hr]; rfl
        rw [HE.out]
        generalize textT ⟨no, W.drop 2, hd⟩ = TT at *
        clear hr HQ HX HE
        go_wp2
        refine bodyPost_ret (v := .tuple #[.agg #[.int .i64 0, .slice none 0 0, .bool false], .int .i64 2]) (by simp [results, Tryd.results30, go_sem, *]) rfl (RetParse.no HN.out (((B5.setCell (by simp) _).setCell (by simp) _).setCell (by simp) _))
      | true =>
        have HE : Hid (textE ⟨no, W.drop 2, hd⟩ = 0 ∧ textT ⟨no, W.drop 2, hd⟩ = textL ⟨no, W.drop 2, hd⟩) := by unfold textE textT; rw [hr]; exact ⟨rfl, rfl⟩
        rw [HE.out.1, HE.out.2]
        by_cases ht : textL ⟨no, W.drop 2, hd⟩ = s
        · have HY : Hid (parP s = some ⟨no, W.drop 2, hd⟩) := by show _ = _; rw [HQ.out, HX.out, if_pos ⟨hr, ht⟩]
          have fe : ((bstr (textL ⟨no, W.drop 2, hd⟩)).toList == (bstr s).toList) = true := by rw [ht]; simp
          have fe' : (!((bstr (textL ⟨no, W.drop 2, hd⟩)).toList == (bstr s).toList)) = false := by rw [fe]; rfl
          have CC := copied_calls no (W.drop 2) hd (some ⟨w1.heap.size, 2, none⟩) (W.length - 2) w5 rk5 (by omega)
          rw [hL] at CC
          have y0 : w5.cell? ⟨w3.heap.size, 0, none⟩ = some (.int .i64 no) := xb5.at_ rfl
          have y1 : w5.cell? ⟨w3.heap.size, 1, none⟩ = some (.slice (some ⟨w1.heap.size, 2, none⟩) (W.length - 2) (W.length - 2)) := xb5.at_ rfl
          have y2 : w5.cell? ⟨w3.heap.size, 2, none⟩ = some (.bool hd) := xb5.at_ rfl
          generalize textL ⟨no, W.drop 2, hd⟩ = TT at *
          clear hr HQ HX HE ht hbq
          go_wp2_with fail
          refine CC.mono ?_
          clear CC
          rintro e w6 ⟨A6, c6, rfl, o6, b6⟩
          obtain ⟨_, _, hz0, hz1, hz2⟩ := own_form o6
          injection hz0 with hz4 _ hz3
          subst hz3
          subst hz4
          unfold maxLen at hz2
          have rk6 : RS w6 A6 (W.drop 2) := RV.of_own o6
          have rb6 := rb5.below b6 rb5.lt
          have B6 := B5.trans (b6.mono B5.size)
          have hK := own_rvf (F := fun k => k = w.heap.size) o6 (fun k hk => .inl (by subst hk; exact rb5.lt))
          have KS : Kept (fun k => k = w.heap.size) w6 (((w6.setCell ⟨w.heap.size, 0, none⟩ (.int .i64 no)).setCell ⟨w.heap.size, 1, none⟩ (.slice A6 (W.drop 2).length c6)).setCell ⟨w.heap.size, 2, none⟩ (.bool hd)) := Kept.setCell (p := ⟨w.heap.size, 2, none⟩) (Kept.setCell (p := ⟨w.heap.size, 1, none⟩) (Kept.setCell (p := ⟨w.heap.size, 0, none⟩) (Kept.refl (fun k => k = w.heap.size) w6) (.inl rfl) _) (.inl rfl) _) (.inl rfl) _
          have HF := Lib.hid (RetParse.yes HY.out (hK.kept KS).rv hz1 (by omega) (((B6.setCell (p := ⟨w.heap.size, 0, none⟩) (Nat.le_refl _) (.int .i64 no)).setCell (p := ⟨w.heap.size, 1, none⟩) (Nat.le_refl _) (.slice A6 (W.drop 2).length c6)).setCell (p := ⟨w.heap.size, 2, none⟩) (Nat.le_refl _) (.bool hd)))
          simp only at HF
          rw [hL] at HF
          rw [hL]
          have r0 : w6.cell? ⟨w.heap.size, 0, none⟩ = some (.int .i64 0) := rb6.at_ rfl
          have r1 : w6.cell? ⟨w.heap.size, 1, none⟩ = some (.slice none 0 0) := rb6.at_ rfl
          have r2 : w6.cell? ⟨w.heap.size, 2, none⟩ = some (.bool false) := rb6.at_ rfl
          have f0 := rb6.frozen 0
          have f1 := rb6.frozen 1
          have f2 := rb6.frozen 2
          clear y0 y1 y2 hK KS rk6 o6 rb6 hL
          go_wp2
          refine bodyPost_ret (v := .tuple #[.agg #[.int .i64 no, .slice A6 (W.length - 2) c6, .bool hd], .int .i64 0]) (by simp [results, Tryd.results30, go_sem, *]) rfl HF.out
        · have HN : Hid (parP s = none) := by show _ = _; rw [HQ.out, HX.out, if_neg (fun h => ht h.2)]
          have fe : ((bstr (textL ⟨no, W.drop 2, hd⟩)).toList == (bstr s).toList) = false := by rw [bstr_list, bstr_list, beq_eq_false_iff_ne]; exact ht
          have fe' : (!((bstr (textL ⟨no, W.drop 2, hd⟩)).toList == (bstr s).toList)) = true := by rw [fe]; rfl
          generalize textL ⟨no, W.drop 2, hd⟩ = TT at *
          clear hr HQ HX HE ht hbq
          go_wp2
          refine bodyPost_ret (v := .tuple #[.agg #[.int .i64 0, .slice none 0 0, .bool false], .int .i64 2]) (by simp [results, Tryd.results30, go_sem, *]) rfl (RetParse.no HN.out (((B5.setCell (by simp) _).setCell (by simp) _).setCell (by simp) _))
end Go.Proofs.YtdcjljlppeighaaDoor
