/-
  Walks of the document's reader: worth, what a word says.
-/
import Derived.Test.YtiokbebodblhaaaGreatDoorTGw
import Derived.Deep.RegionLaw
import Derived.Deep.CutRange
namespace Go.Proofs.YtiokbebodblhaaaGreatDoor
open Go.RowKit TraceP

theorem worth_calls (c : UInt8) (w : World) : Calls Tryz.prog 133 #[.int .u8 (c.toNat : Int)] w fun e w' => e = .returned (.int .u8 (worthV c : Int)) ∧ w = w' := by
  have h8 := c.toNat_lt
  have hv : worthV c = if 48 ≤ c.toNat ∧ c.toNat ≤ 57 then c.toNat - 48 else if 65 ≤ c.toNat ∧ c.toNat ≤ 70 then c.toNat - 55 else 16 := rfl
  generalize worthV c = v at *
  generalize c.toNat = n at *
  have E : (decide (48 ≤ (n : Int)) = true ∧ decide ((n : Int) ≤ 57) = true ∧ IntKind.u8.wrap ((n : Int) - 48) = (v : Int)) ∨
      (((decide (48 ≤ (n : Int)) = false) ∨ (decide (48 ≤ (n : Int)) = true ∧ decide ((n : Int) ≤ 57) = false)) ∧
        ((decide (65 ≤ (n : Int)) = true ∧ decide ((n : Int) ≤ 70) = true ∧ IntKind.u8.wrap ((n : Int) - 55) = (v : Int)) ∨
         ((decide (65 ≤ (n : Int)) = false ∨ (decide (65 ≤ (n : Int)) = true ∧ decide ((n : Int) ≤ 70) = false)) ∧ v = 16))) := by
    by_cases h1 : 48 ≤ n ∧ n ≤ 57
    · rw [if_pos h1] at hv
      exact .inl ⟨decide_eq_true (by omega), decide_eq_true (by omega), by rw [IntKind.wrap_u8]; omega⟩
    · rw [if_neg h1] at hv
      refine .inr ⟨?_, ?_⟩
      · by_cases h2 : 48 ≤ n
        · exact .inr ⟨decide_eq_true (by omega), decide_eq_false (by omega)⟩
        · exact .inl (decide_eq_false (by omega))
      · by_cases h3 : 65 ≤ n ∧ n ≤ 70
        · rw [if_pos h3] at hv
          exact .inl ⟨decide_eq_true (by omega), decide_eq_true (by omega), by rw [IntKind.wrap_u8]; omega⟩
        · rw [if_neg h3] at hv
          refine .inr ⟨?_, hv⟩
          by_cases h4 : 65 ≤ n
          · exact .inr ⟨decide_eq_true (by omega), decide_eq_false (by omega)⟩
          · exact .inl (decide_eq_false (by omega))
  clear hv h8
  go_enter Tryz.func133, Tryz.ntmps133
  rcases E with ⟨d1, d2, wu⟩ | ⟨d1 | ⟨d1, d2⟩, ⟨d3, d4, wu⟩ | ⟨d3 | ⟨d3, d4⟩, rfl⟩⟩
  all_goals
    (go_wp2
     go_ret
     exact ⟨rfl, rfl⟩)
/-- Two letters of sixteen stand behind a '%'. -/
def Esc (c : UInt8) (r : Txt) : Prop := c = 37 ∧ ∃ a b r', r = a :: b :: r' ∧ worthV a < 16 ∧ worthV b < 16
theorem rdec_yes {a b : UInt8} {r : Txt} (ha : worthV a < 16) (hb : worthV b < 16) : rdec (37 :: a :: b :: r) = UInt8.ofNat (worthV a * 16 + worthV b) :: rdec r := by
  rw [rdec, if_pos ⟨rfl, ha, hb⟩]
theorem rdec_no {c : UInt8} {r : Txt} (h : ¬ Esc c r) : rdec (c :: r) = c :: rdec r := by
  match r with
  | [] => rfl
  | [a] => rfl
  | a :: b :: r' => rw [rdec, if_neg (fun e => h ⟨e.1, a, b, r', rfl, e.2.1, e.2.2⟩)]
theorem drop_at {t : Txt} {k : Nat} (h : k < t.length) : t.drop k = t[k] :: t.drop (k + 1) := (List.getElem_cons_drop ..).symm
set_option maxRecDepth 100000 in
set_option maxHeartbeats 3200000 in
theorem dtextr_calls (L : Nat) (w0 w : World) (g : Nat) (F : Nat → Prop) (s : RdS) (H : DdOK L w0 w g F s) (t : Txt) (ht : t.length ≤ 65536) :
    Calls Tryz.prog 91 #[.pointer (some ⟨g, 0, none⟩), .string (bstr t)] w fun e w' => e = .returned (.string (bstr (rTextW t s).1)) ∧ DReads L w0 g F (rTextW t s).2 w w' := by
  have hb := get_bAt t
  have hs : (bstr t).size = t.length := rfl
  have hR : rTextW t s = if wordT (rdec (t.drop 1)) = t then (rdec (t.drop 1), s) else ([], s.1, true) := rfl
  have hle : (rdec (t.drop 1)).length ≤ 65536 := by have := rdec_le _ (t.drop 1) (Nat.le_refl _); rw [List.length_drop] at this; omega
  rw [hR]
  clear hR
  generalize hu : rdec (t.drop 1) = u at *
  generalize hQ : (if wordT u = t then (u, s) else ([], s.1, true)) = q
  have FN : (decide (wordT u = t) = true ∧ q = (u, s)) ∨ (decide (wordT u = t) = false ∧ q = ([], s.1, true)) := by
    by_cases hh : wordT u = t
    · exact .inl ⟨decide_eq_true hh, hQ.symm.trans (if_pos hh)⟩
    · exact .inr ⟨decide_eq_false hh, hQ.symm.trans (if_neg hh)⟩
  clear hQ
  replace hu := Lib.hid hu
  go_enter Tryz.func91, Tryz.ntmps91
  go_wp2_with fail
  go_loopw [5, 6] (fun v i wr => ∃ (k : Nat) (out : Txt), k ≤ 65539 ∧ i = .int .i64 (k : Int) ∧ Hid (out ++ rdec (t.drop k) = u) ∧ wr.ownsRow w.heap.size 5 1 v out.length (cB out) ∧ Below w.heap.size w wr) (fun _ i _ => t.length - (intOf i).toNat)
  case atStart => exact ⟨1, [], by omega, rfl, hu, ⟨rfl, .inl ⟨rfl, rfl⟩⟩, Below.refl _ _⟩
  case round =>
    obtain ⟨k, out, hk, rfl, I, hown, hB⟩ := hrel
    have hwr := hB.size
    have hol : out.length ≤ 65536 := by
      have := congrArg List.length I.out
      rw [List.length_append] at this
      omega
    obtain ⟨A, c, rfl, hnc, hcm⟩ := own_form hown
    by_cases hlt : k < t.length
    · have dl : decide ((k : Int) < (t.length : Int)) = true := decide_eq_true (by omega)
      have dl' : decide (k < t.length) = true := decide_eq_true hlt
      have hbk := bAt_get hlt
      have HD := drop_at hlt
      generalize t[k] = ch at *
      have h8 := ch.toNat_lt
      have hg1 : ∀ k, (Value.slice A out.length c).ownBlock = some k → w.heap.size ≤ k := fun k hk => (hown.lt k hk).1
      by_cases hE : Esc ch (t.drop (k + 1))
      · obtain ⟨h37, a, b, r, hd, ha, hbb⟩ := hE
        have hlen : k + 2 < t.length := by
          have := congrArg List.length hd
          rw [List.length_drop, List.length_cons, List.length_cons] at this
          omega
        have ha1 : bAt t (k + 1) = (a.toNat : Int) := by
          have e := drop_at (t := t) (k := k + 1) (by omega)
          rw [hd] at e
          injection e with e1 e2
          rw [bAt_get (l := t) (k := k + 1) (by omega), e1]
        have hb1 : bAt t (k + 2) = (b.toNat : Int) := by
          have e := drop_at (t := t) (k := k + 1) (by omega)
          rw [hd] at e
          injection e with e1 e2
          have e' := drop_at (t := t) (k := k + 2) (by omega)
          rw [← e2] at e'
          injection e' with e3 e4
          rw [bAt_get (l := t) (k := k + 2) (by omega), e3]
        have hr : t.drop (k + 3) = r := by
          have e : t.drop (k + 1 + 2) = (t.drop (k + 1)).drop 2 := by rw [List.drop_drop]
          rw [hd] at e
          exact e
        have I2 : Hid ((out ++ [UInt8.ofNat (worthV a * 16 + worthV b)]) ++ rdec (t.drop (k + 3)) = u) := Lib.hid (by
          rw [hr, ← I.out, HD, hd, h37, rdec_yes ha hbb]
          simp)
        have e1 : ((ch.toNat : Int) == 37) = true := beq_iff_eq.2 (by rw [h37]; rfl)
        have d2 : decide ((k : Int) + 2 < (t.length : Int)) = true := decide_eq_true (by omega)
        have d2' : decide (k + 2 < t.length) = true := decide_eq_true hlen
        have d3 : decide ((worthV a : Int) < 16) = true := decide_eq_true (by omega)
        have d3' : decide (worthV a < 16) = true := decide_eq_true ha
        have d4 : decide ((worthV b : Int) < 16) = true := decide_eq_true (by omega)
        have d4' : decide (worthV b < 16) = true := decide_eq_true hbb
        clear hd hr HD I h37
        go_upto_region 6 with (go_at_call 133; with_reducible refine (worth_calls _ _).mono ?_; rintro _ _ ⟨rfl, rfl⟩)
        have hx : (UInt8.ofNat (worthV a * 16 + worthV b)).toNat = worthV a * 16 + worthV b := by rw [UInt8.toNat_ofNat']; omega
        have wm : IntKind.u8.wrap ((worthV a : Int) * 16) = (worthV a : Int) * 16 := by rw [IntKind.wrap_u8]; omega
        have wa : IntKind.u8.wrap ((worthV a : Int) * 16 + (worthV b : Int)) = ((UInt8.ofNat (worthV a * 16 + worthV b)).toNat : Int) := by rw [IntKind.wrap_u8, hx]; omega
        generalize UInt8.ofNat (worthV a * 16 + worthV b) = x at *
        clear hx
        have own1 := own_below hown ((Below.refl wr.heap.size wr).drew.alloc (Nat.le_refl _) (.cells (cB [x]).toArray 5)) (fun k hk => (hown.lt k hk).2)
        have own2 := own_below hown (((Below.refl wr.heap.size wr).alloc (Nat.le_refl _) (.cells (cB [x]).toArray 5)).drew) (fun k hk => (hown.lt k hk).2)
        have rv1 := RV.new wr.drew (cB [x]) 5 (0, 0)
        have rv2 := (RV.new wr (cB [x]) 5 (0, 0)).drew
        have b1 := hB.drew.trans ((below_new wr.drew (.cells (cB [x]).toArray 5)).mono hwr)
        have b2 := (hB.trans ((below_new wr (.cells (cB [x]).toArray 5)).mono hwr)).drew
        have sz1 := b1.size
        have sz2 := b2.size
        have wk1 : IntKind.i64.wrap ((k : Int) + 1) = (k : Int) + 1 := by rw [IntKind.wrap_i64]; omega
        have wk2 : IntKind.i64.wrap ((k : Int) + 2) = (k : Int) + 2 := by rw [IntKind.wrap_i64]; omega
        have p1 : (0 ≤ (k : Int) + 1) = True := eq_true (by omega)
        have p1' : ((k : Int) + 1 < (t.length : Int)) = True := eq_true (by omega)
        have p2 : (0 ≤ (k : Int) + 2) = True := eq_true (by omega)
        have p2' : ((k : Int) + 2 < (t.length : Int)) = True := eq_true (by omega)
        have n1 : ((k : Int) + 1).toNat = k + 1 := by omega
        have n2 : ((k : Int) + 2).toNat = k + 2 := by omega
        go_region_law (first
          | (go_simp; go_at_call 133; with_reducible refine (worth_calls _ _).mono ?_; rintro _ _ ⟨rfl, rfl⟩)
          | (refine step_append_rv (A := some ⟨wr.heap.size, 0, none⟩) (m := 1) (c := 1) (news := cB [x]) el_byte rfl (.tmp 40) (.tmp 53) rfl rfl (by first | exact own1 | exact own2) rfl rfl (by first | exact rv1 | exact rv2) (cB_one _) (by unfold maxLen; omega) (by omega) (by first | exact sz1 | exact sz2) ?_; intro v' w3 own3 gr hv))
        all_goals
          (have B3 : Below w.heap.size w w3 := by first | exact below_grown b1 gr hg1 | exact below_grown b2 gr hg1
           clear own1 own2 rv1 rv2 b1 b2 sz1 sz2 gr hv hown wk1 wk2 p1 p1' p2 p2' n1 n2
           go_wp2_with fail
           go_roundw
           case rel => exact ⟨k + 3, out ++ [x], by omega, by go_num, I2, by rw [List.length_append, cB_append]; exact own3, B3⟩
           case measure => simp [intOf]; omega)
      · have I2 : Hid ((out ++ [ch]) ++ rdec (t.drop (k + 1)) = u) := Lib.hid (by
          rw [← I.out, HD, rdec_no hE]
          simp)
        have W : ((ch.toNat : Int) == 37) = false ∨ (((ch.toNat : Int) == 37) = true ∧ decide ((k : Int) + 2 < (t.length : Int)) = false ∧ decide (k + 2 < t.length) = false) ∨
            (((ch.toNat : Int) == 37) = true ∧ decide ((k : Int) + 2 < (t.length : Int)) = true ∧ decide (k + 2 < t.length) = true ∧ k + 2 < t.length ∧ ∃ a b : UInt8, bAt t (k + 1) = (a.toNat : Int) ∧ bAt t (k + 2) = (b.toNat : Int) ∧
              ((decide ((worthV a : Int) < 16) = false ∧ decide (worthV a < 16) = false) ∨ (decide ((worthV a : Int) < 16) = true ∧ decide (worthV a < 16) = true ∧ decide ((worthV b : Int) < 16) = false ∧ decide (worthV b < 16) = false))) := by
          by_cases h37 : ch = 37
          · have e1 : ((ch.toNat : Int) == 37) = true := beq_iff_eq.2 (by rw [h37]; rfl)
            by_cases hlen : k + 2 < t.length
            · refine .inr (.inr ⟨e1, decide_eq_true (by omega), decide_eq_true hlen, hlen, t[k + 1], t[k + 2], bAt_get (by omega), bAt_get hlen, ?_⟩)
              by_cases ha : worthV t[k + 1] < 16
              · refine .inr ⟨decide_eq_true (by omega), decide_eq_true ha, ?_⟩
                have hb' : ¬ worthV t[k + 2] < 16 := fun hb' => hE ⟨h37, t[k + 1], t[k + 2], t.drop (k + 3), by rw [drop_at (by omega : k + 1 < t.length), drop_at hlen], ha, hb'⟩
                exact ⟨decide_eq_false (by omega), decide_eq_false hb'⟩
              · exact .inl ⟨decide_eq_false (by omega), decide_eq_false ha⟩
            · exact .inr (.inl ⟨e1, decide_eq_false (by omega), decide_eq_false hlen⟩)
          · exact .inl (beq_eq_false_iff_ne.2 fun e => h37 (UInt8.toNat_inj.1 (by have : (ch.toNat : Int) = ((37 : UInt8).toNat : Int) := e; omega)))
        clear hE HD I
        have own1 := own_below hown ((Below.refl wr.heap.size wr).alloc (Nat.le_refl _) (.cells (cB [ch]).toArray 5)) (fun k hk => (hown.lt k hk).2)
        have B2 := hB.trans ((below_new wr (.cells (cB [ch]).toArray 5)).mono hwr)
        have sz := B2.size
        rcases W with e1 | ⟨e1, d2, d2'⟩ | ⟨e1, d2, d2', hlen, a, b, ha1, hb1, ⟨d3, d3'⟩ | ⟨d3, d3', d4, d4'⟩⟩
        all_goals
          (go_wp2_with (first
            | (go_at_call 133; with_reducible refine (worth_calls _ _).mono ?_; rintro _ _ ⟨rfl, rfl⟩)
            | ((with_reducible show wpList _ _ _ (⟨some 62, _, _, _, _, _⟩ :: _) _ _); refine wpList_append_rv el_byte rfl (.tmp 57) (.tmp 61) rfl w.heap.size _ out.length (cB out) rfl own1 (some ⟨wr.heap.size, 0, none⟩) 1 1 (cB [ch]) rfl rfl (RV.new wr (cB [ch]) 5 (0, 0)) (cB_one _) ?f2 ?f3 ?f4 ?_))
           case f2 => unfold maxLen; omega
           case f3 => omega
           case f4 => exact sz
           intro v' w3 own3 gr hv
           have B3 := below_grown B2 gr hg1
           clear gr hv hown own1 B2 sz
           go_wp2_with fail
           go_roundw
           case rel => exact ⟨k + 1, out ++ [ch], by omega, by go_num, I2, by rw [List.length_append, cB_append]; exact own3, B3⟩
           case measure => simp [intOf]; omega)
    · have dl : decide ((k : Int) < (t.length : Int)) = false := decide_eq_false (by omega)
      have dl' : decide (k < t.length) = false := decide_eq_false hlt
      have he : out = u := by
        have := I.out
        rw [List.drop_eq_nil_of_le (by omega)] at this
        have e0 : rdec [] = [] := rfl
        rw [e0, List.append_nil] at this
        exact this
      subst he
      clear I hu
      have hR : RB wr A out := RV.of_own hown
      have cv := run_str (P := Tryz.prog) wr 43 5 9 Tryz.underlying43 Tryz.underlying5 Tryz.underlying9 A out out.length c hR rfl
      have cvF := fun (w2 : World) (d : Below wr.heap.size wr w2) => run_str (P := Tryz.prog) w2 43 5 9 Tryz.underlying43 Tryz.underlying5 Tryz.underlying9 A out out.length c (RV.below hR d) rfl
      have C := dword_calls out wr (by omega)
      have hq := eq_eq2 (wordT out) t
      rcases FN with ⟨d5, rfl⟩ | ⟨d5, rfl⟩ <;> rw [d5] at hq <;> clear d5
      all_goals
        (go_upto_region 10 with (go_at_call 34; refine C.mono ?_; rintro _ w2 ⟨rfl, d2⟩; have cv2 := cvF w2 d2; have B2 := hB.trans (d2.mono hwr); have K := Kept.of_below B2 (fun k => k = g); have R0 : DReads L w0 g F s w w2 := ⟨H.kept B2, K⟩; have R2 := R0.set_; obtain ⟨A0, c0, n0, bk⟩ := R0.ok.bad_; have f2 := bk.frozen 2; have c2 := bk.at_ (i := 2) (v := .bool s.2) rfl; clear d2 C bk hR cv cvF hown)
         go_wp2_with fail
         go_ret
         first | exact ⟨rfl, R0⟩ | exact ⟨rfl, R2⟩)
end Go.Proofs.YtiokbebodblhaaaGreatDoor
namespace Go.Proofs.YtiokbebodblhaaaGreatDoor
open Go.RowKit TraceP

theorem dtagr_none (L : Nat) (w0 w : World) (g : Nat) (F : Nat → Prop) (s : RdS) (H : DdOK L w0 w g F s) (h : (pWord s).1 = [] ∨ (pWord s).1 = [45]) :
    Calls Tryz.prog 98 #[.pointer (some ⟨g, 0, none⟩)] w fun e w' => e = .returned (.agg #[.string (bstr (rTag s).1.text), .bool (rTag s).1.weak]) ∧ DReads L w0 g F (rTag s).2 w w' := by
  have hT : rTag s = (zTag, (pWord s).2.1, (pWord s).2.2 || (pWord s).1 == []) := by unfold rTag; dsimp only; rw [if_pos h.symm]
  rw [hT]
  clear hT
  have hg := H.lt
  have H0 := (DHold.start H).alloc (.cells #[.string ⟨#[]⟩, .bool false] 25)
  have bk := Blk.new w 25 #[.string ⟨#[]⟩, .bool false]
  have C := dw_calls L w0 _ g _ s H0.ok
  obtain ⟨t, s1, q0⟩ : ∃ a s', pWord s = (a, s') := ⟨_, _, rfl⟩
  rw [q0] at C h ⊢
  clear q0
  dsimp only at C h ⊢
  have h1 : (bstr [45]).toList = [45] := bstr_list _
  have h2 : (bstr []).toList = [] := bstr_list _
  go_enter Tryz.func98, Tryz.ntmps98
  go_upto_region 2 with (go_at_call 46; refine C.mono ?_; rintro _ w1 ⟨rfl, R1⟩; have H1 := H0.call R1; have bk1 := bk.rdD R1 (by omega); clear R1 H0 bk C)
  obtain ⟨ws, bad⟩ := s1
  obtain ⟨A0, c0, n0, bg⟩ := H1.ok.bad_
  have k0 := bk1.at_ (i := 0) (v := .string ⟨#[]⟩) rfl
  have k1 := bk1.at_ (i := 1) (v := .bool false) rfl
  have f0 := bk1.frozen 0
  have f1 := bk1.frozen 1
  have g2 := bg.frozen 2
  have HB := fun b => H1.call (H1.ok.setB b)
  cases bad
  all_goals
    (first | have c2 := bg.at_ (i := 2) (v := .bool false) rfl | have c2 := bg.at_ (i := 2) (v := .bool true) rfl)
    clear bg
    rcases h with rfl | rfl
  all_goals go_wp2
  all_goals
    (have fin : ∀ b : Bool, DHold L w0 w g F (ws, b) (((w1.setCell ⟨g, 2, none⟩ (.bool b)).setCell ⟨w.heap.size, 0, none⟩ (.string ⟨#[]⟩)).setCell ⟨w.heap.size, 1, none⟩ (.bool false)) := fun b => ((HB b).set (Nat.le_refl _) _).set (Nat.le_refl _) _
     have bz : ∀ b : Bool, Blk (((w1.setCell ⟨g, 2, none⟩ (.bool b)).setCell ⟨w.heap.size, 0, none⟩ (.string ⟨#[]⟩)).setCell ⟨w.heap.size, 1, none⟩ (.bool false)) w.heap.size 25 #[.string ⟨#[]⟩, .bool false] := fun b => ((bk1.far (by show w.heap.size ≠ g; omega) _).set_ 0 (.string ⟨#[]⟩)).set_ 1 (.bool false)
     refine bodyPost_ret (results_cell_row rfl _ _ w.heap.size 25 _ (0, 0) _ rfl (bz _) Tryz.underlying25 rfl (by kernel_rfl)) rfl ?_
     exact ⟨rfl, (fin _).done⟩)
theorem tagW_len {x : Txt} {k : Bool} (h : x.length ≤ 65536) : ShT (TraceP.Tag.mk x k).text := h
set_option maxRecDepth 100000 in
set_option maxHeartbeats 3200000 in
theorem dtagr_some (L : Nat) (w0 w : World) (g : Nat) (F : Nat → Prop) (s : RdS) (H : DdOK L w0 w g F s) (c : UInt8) (r : Txt) (h : (pWord s).1 = c :: r) (hn : ¬ (c = 45 ∧ r = [])) :
    Calls Tryz.prog 98 #[.pointer (some ⟨g, 0, none⟩)] w fun e w' => e = .returned (.agg #[.string (bstr (rTag s).1.text), .bool (rTag s).1.weak]) ∧ DReads L w0 g F (rTag s).2 w w' := by
  have hl := H.head
  rw [h, List.length_cons] at hl
  have hT : rTag s = (⟨(rTextW r (pWord s).2).1, c == 119⟩, (rTextW r (pWord s).2).2.1, (rTextW r (pWord s).2).2.2 || tagT ⟨(rTextW r (pWord s).2).1, c == 119⟩ != c :: r) := by
    unfold rTag
    rw [h]
    dsimp only
    rw [if_neg (by rintro (e | e); injection e with e1 e2; exact hn ⟨e1, e2⟩; cases e)]
    rfl
  rw [hT]
  clear hT
  have hg := H.lt
  have H0 := (DHold.start H).alloc (.cells #[.string ⟨#[]⟩, .bool false] 25)
  have bk := Blk.new w 25 #[.string ⟨#[]⟩, .bool false]
  have C := dw_calls L w0 _ g _ s H0.ok
  rw [h] at C
  generalize (pWord s).2 = s1 at *
  have hxl := textW_le r s1
  obtain ⟨kw, hkw⟩ : ∃ b, b = (c == 119) := ⟨_, rfl⟩
  rw [← hkw]
  obtain ⟨x, s2, qx⟩ : ∃ a s', rTextW r s1 = (a, s') := ⟨_, _, rfl⟩
  obtain ⟨ws, bad⟩ := s2
  rw [qx] at hxl ⊢
  dsimp only at hxl ⊢
  obtain ⟨q, hqd⟩ : ∃ q, q = (bad || tagT ⟨x, kw⟩ != c :: r) := ⟨_, rfl⟩
  rw [← hqd]
  replace hqd := Lib.hid hqd
  have h1 : ((bstr (c :: r)).toList == [45]) = false := by
    rw [bstr_list]
    cases hq : ((c :: r : Txt) == [45]) with
    | false => rfl
    | true => exact absurd (by have := beq_iff_eq.1 hq; injection this with e1 e2; exact ⟨e1, e2⟩) hn
  have h2 : (bstr (c :: r)).toList.isEmpty = false := by rw [bstr_list]; rfl
  clear hn h
  go_enter Tryz.func98, Tryz.ntmps98
  go_upto_region 2 with (go_at_call 46; refine C.mono ?_; rintro _ w1 ⟨rfl, R1⟩; have H1 := H0.call R1; have bk1 := bk.rdD R1 (by omega); clear R1 H0 bk C)
  go_upto_region 5 with (fail)
  have hx := cut_tail c r
  have sz : ((bstr (c :: r)).size : Int) = (r.length : Int) + 1 := by rw [bstr_size, List.length_cons]; omega
  have hb := get_bAt (c :: r)
  have hb0 : bAt (c :: r) 0 = (c.toNat : Int) := bAt_get (l := c :: r) (k := 0) (by simp)
  have hle : (1 : Int) ≤ (r.length : Int) + 1 := by omega
  have hlt : (0 : Int) < (r.length : Int) + 1 := by omega
  have c8 : ((c.toNat : Int) == 119) = (c == 119) := by
    cases hq : (c == 119) with
    | true => rw [beq_iff_eq.1 hq]; rfl
    | false =>
      cases hq2 : ((c.toNat : Int) == 119) with
      | false => rfl
      | true =>
        have e := beq_iff_eq.1 hq2
        have : c = 119 := UInt8.toNat_inj.1 (by show c.toNat = 119; omega)
        rw [this] at hq
        cases hq
  have hkw' := Lib.hid hkw
  rw [← hkw] at c8
  have CX := fun W (h : DHold L w0 w g F s1 W) => dtextr_calls L w0 W g _ s1 h.ok r (by omega)
  rw [qx] at CX
  dsimp only at CX
  replace qx := Lib.hid qx
  have J0 := H1.drew
  have J0a := (H1.alloc (.cells #[.string ⟨#[]⟩, .bool false] 25)).drew
  have bk0 := bk1.drew
  have bk0a := (bk1.alloc (.cells #[.string ⟨#[]⟩, .bool false] 25)).drew
  have bQ0 := (Blk.new w1 25 #[.string ⟨#[]⟩, .bool false]).drew
  have hwb : w.heap.size < w1.heap.size := bk1.lt
  have hgb : g < w1.heap.size := H1.ok.lt
  go_cut [4] from 4 to 32 (fun v wx => ∃ b, v = .pointer (some ⟨b, 0, none⟩) ∧ DHold L w0 w g F (ws, bad) wx ∧ Blk wx b 25 #[.string (bstr x), .bool kw] ∧ Blk wx w.heap.size 25 #[.string ⟨#[]⟩, .bool false] ∧ w.heap.size < b)
  case first =>
    go_region_law (go_simp; first
      | (go_at_call 91; with_reducible refine (CX _ J0a).mono ?_; rintro _ wA ⟨rfl, RA⟩; have JA := J0a.call RA; have bkA := bk0a.rdD RA (by omega); have bQA := bQ0.rdD RA (by omega); have k0 := bQA.at_ (i := 0) (v := .string ⟨#[]⟩) rfl; have k1 := bQA.at_ (i := 1) (v := .bool false) rfl; have f0 := bQA.frozen 0; have f1 := bQA.frozen 1; clear J0 J0a bk0 bk0a bQ0 RA)
      | (go_at_call 91; with_reducible refine (CX _ J0).mono ?_; rintro _ wA ⟨rfl, RA⟩; have JA := J0.call RA; have bkA := bk0.rdD RA (by omega); clear J0 J0a bk0 bk0a bQ0 RA))
    all_goals go_wp2_with fail
    all_goals go_meet
    all_goals (first
      | (have _q := bQA; exact ⟨_, rfl, (JA.set (p := ⟨w1.heap.size, 0, none⟩) H1.size _).set (p := ⟨w1.heap.size, 1, none⟩) H1.size _, by rw [hkw]; exact (bQA.set_ 0 _).set_ 1 _, (bkA.far (by show w.heap.size ≠ w1.heap.size; omega) _).far (by show w.heap.size ≠ w1.heap.size; omega) _, hwb⟩)
      | exact ⟨_, rfl, JA.alloc _, by rw [hkw]; exact Blk.new _ _ _, bkA.alloc _, bkA.lt⟩)
  case rest =>
    obtain ⟨b, rfl, hX, hB, hRr, hlb⟩ := hcut
    clear CX J0 J0a bk0 bk0a bQ0 hx sz hb hb0 hle hlt c8 H1 bk1 h1 h2
    obtain ⟨v2, hv2⟩ : ∃ z, z = wc := ⟨_, rfl⟩
    rw [← hv2] at hX hB hRr
    clear hkw
    have hgb2 : g < b := by omega
    have hgw : g ≠ w.heap.size := by omega
    obtain ⟨A0, c0, n0, bg⟩ := hX.ok.bad_
    have k0 := hB.at_ (i := 0) (v := .string (bstr x)) rfl
    have k1 := hB.at_ (i := 1) (v := .bool kw) rfl
    have g2 := bg.frozen 2
    have TC := dtag_calls ⟨x, kw⟩ v2 (tagW_len (by omega))
    have hq := eq_eq2 (tagT ⟨x, kw⟩) (c :: r)
    have fin : ∀ w2, Below v2.heap.size v2 w2 → DHold L w0 w g F (ws, q) (((w2.setCell ⟨g, 2, none⟩ (.bool q)).setCell ⟨w.heap.size, 0, none⟩ (.string (bstr x))).setCell ⟨w.heap.size, 1, none⟩ (.bool kw)) := fun w2 d => (((hX.below d).call ((hX.below d).ok.setB q)).set (Nat.le_refl _) _).set (Nat.le_refl _) _
    have bz : ∀ w2, Below v2.heap.size v2 w2 → Blk (((w2.setCell ⟨g, 2, none⟩ (.bool q)).setCell ⟨w.heap.size, 0, none⟩ (.string (bstr x))).setCell ⟨w.heap.size, 1, none⟩ (.bool kw)) w.heap.size 25 #[.string (bstr x), .bool kw] := fun w2 d => (((hRr.below d hRr.lt).far (fun e => hgw e.symm) _).set_ 0 (.string (bstr x))).set_ 1 (.bool kw)
    subst hv2
    cases bad with
    | true =>
      have hq1 : q = true := hqd.out
      clear hqd
      subst hq1
      have c2 := bg.at_ (i := 2) (v := .bool true) rfl
      have r0 := hRr.at_ (i := 0) (v := .string ⟨#[]⟩) rfl
      have r1 := hRr.at_ (i := 1) (v := .bool false) rfl
      have s0 := hRr.frozen 0
      have s1 := hRr.frozen 1
      have fin1 := fin v2 (Below.refl _ _)
      have bz1 := bz v2 (Below.refl _ _)
      clear bg TC hq fin bz hX hB hRr
      go_wp2
      refine bodyPost_ret (results_cell_row rfl _ _ w.heap.size 25 _ (0, 0) _ rfl bz1 Tryz.underlying25 rfl (by kernel_rfl)) rfl ?_
      exact ⟨rfl, fin1.done⟩
    | false =>
      have c2 := bg.at_ (i := 2) (v := .bool false) rfl
      have W : (decide (tagT ⟨x, kw⟩ = c :: r) = true ∧ q = false) ∨ (decide (tagT ⟨x, kw⟩ = c :: r) = false ∧ q = true) := by
        by_cases hh : tagT ⟨x, kw⟩ = c :: r
        · exact .inl ⟨decide_eq_true hh, by rw [hqd.out, hh]; simp⟩
        · exact .inr ⟨decide_eq_false hh, by rw [hqd.out, bne_iff_ne.2 hh]; rfl⟩
      clear hqd
      rcases W with ⟨d5, hq1⟩ | ⟨d5, hq1⟩ <;> rw [d5] at hq <;> clear d5
      all_goals
        (subst hq1
         go_upto_region 7 with (go_at_call 75; refine TC.mono ?_; rintro _ w2 ⟨rfl, d2⟩; have fin1 := fin w2 d2; have bz1 := bz w2 d2; have hB2 := hB.below d2 hB.lt; have hR2 := hRr.below d2 hRr.lt; have k0 := hB2.at_ (i := 0) (v := .string (bstr x)) rfl; have k1 := hB2.at_ (i := 1) (v := .bool kw) rfl; have r0 := hR2.at_ (i := 0) (v := .string ⟨#[]⟩) rfl; have r1 := hR2.at_ (i := 1) (v := .bool false) rfl; have s0 := hR2.frozen 0; have s1 := hR2.frozen 1; have g2 := (bg.below d2 bg.lt).frozen 2; have c2 := (bg.below d2 bg.lt).at_ (i := 2) (v := .bool false) rfl; clear bg TC fin bz hX hB hRr d2 hB2 hR2)
         go_wp2
         refine bodyPost_ret (results_cell_row rfl _ _ w.heap.size 25 _ (0, 0) _ rfl bz1 Tryz.underlying25 rfl (by kernel_rfl)) rfl ?_
         exact ⟨rfl, fin1.done⟩)
theorem dtagr_calls (L : Nat) (w0 w : World) (g : Nat) (F : Nat → Prop) (s : RdS) (H : DdOK L w0 w g F s) :
    Calls Tryz.prog 98 #[.pointer (some ⟨g, 0, none⟩)] w fun e w' => e = .returned (.agg #[.string (bstr (rTag s).1.text), .bool (rTag s).1.weak]) ∧ DReads L w0 g F (rTag s).2 w w' := by
  cases h : (pWord s).1 with
  | nil => exact dtagr_none L w0 w g F s H (.inl h)
  | cons c r =>
    by_cases hn : c = 45 ∧ r = []
    · exact dtagr_none L w0 w g F s H (.inr (by rw [h, hn.1, hn.2]))
    · exact dtagr_some L w0 w g F s H c r h hn
end Go.Proofs.YtiokbebodblhaaaGreatDoor
