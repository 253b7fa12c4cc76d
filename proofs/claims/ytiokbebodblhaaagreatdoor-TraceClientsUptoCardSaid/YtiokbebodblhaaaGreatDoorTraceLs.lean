/-
  Walks: the lists that a reader reads. Printed by listgen.py.
-/
import Derived.Test.YtiokbebodblhaaaGreatDoorTPl
namespace Go.Proofs.YtiokbebodblhaaaGreatDoor
open Go.RowKit TraceP

theorem info_tag : (Tryz.prog.info? 25).map (fun i => (i.zero, i.size, i.bytes)) = some (some (.agg #[.string ⟨#[]⟩, .bool false]), 2, 24) := by kernel_rfl
theorem el_tag : El Tryz.prog 23 25 (.agg #[.string ⟨#[]⟩, .bool false]) 2 24 := ⟨info_parts info_tag, Tryz.underlying23, rfl, by decide⟩
set_option maxRecDepth 100000 in
set_option maxHeartbeats 1600000 in
theorem tags_read (w0 w : World) (g : Nat) (F : Nat → Prop) (s : RdS) (H : RdOK w0 w g F s) (hS : Std w0) :
    Calls Tryz.prog 128 #[.pointer (some ⟨g, 0, none⟩), .func (.func 124) #[.pointer (some ⟨g, 0, none⟩)] #[]] w
      fun e w' => ∃ r : Row Tag, e = .returned r.val ∧ r.l = (pList pTag s).1 ∧ RowN tgC w.heap.size w' r ∧ Reads w0 g F (pList pTag s).2 w w' := by
  have H0 := Hold.start H
  have N1 := num_eats.one s
  have fw := H.few
  have hI := pNum_i64 s
  go_enter Tryz.func128, Tryz.ntmps128
  go_wp2_with (go_at_call 79; refine (rnum_calls w0 w g _ s H0.ok hS).mono ?_; rintro _ w1 ⟨rfl, R1⟩; have H1 := H0.call R1; clear R1)
  have G0 : Hid (pGo pTag (pNum s).1.toNat [] (pNum s).2 = pList pTag s) := Lib.hid rfl
  generalize hst : pNum s = q at *
  obtain ⟨k0, s1⟩ := q
  clear hst
  dsimp only at G0 N1 hI H1
  go_loopw [5, 6] (fun v n wr => ∃ (k : Int) (out : List Tag) (s' : RdS), n = .int .i64 k ∧ I64 k ∧ wr.ownsRow w.heap.size 25 2 v out.length (fl tgC out) ∧ Hold w0 w g F s' wr ∧ Hid (pGo pTag k.toNat out s' = pList pTag s) ∧ out.length + s'.1.length ≤ s.1.length + (if s'.2 = true then 1 else 0)) (fun _ n _ => (intOf n).toNat)
  case atStart => exact ⟨k0, [], s1, rfl, hI, ⟨rfl, .inl ⟨rfl, rfl⟩⟩, H1, G0, by show 0 + _ ≤ _; omega⟩
  case round =>
    clear N1 hI H1 G0 H0
    obtain ⟨k, out, s', rfl, hI, hown, Hr, G, few⟩ := hrel
    obtain ⟨u, bk⟩ := Hr.ok.bad_
    have c1 := bk.at_ (i := 1) (v := .bool s'.2) rfl
    obtain ⟨A, c, rfl, hnc, hcm⟩ := own_form hown
    by_cases hk : 0 < k
    · have dk : decide (0 < k) = true := decide_eq_true hk
      cases hb : s'.2
      · rw [hb] at c1
        have g1 := go_succ pTag k out s' hk hb
        have G2 : pGo pTag (k - 1).toNat (out ++ [(pTag s').1]) (pTag s').2 = pList pTag s := g1.symm.trans G.out
        replace G2 := Lib.hid G2
        have few2 := tag_eats.one s'
        have wk : wrap64 (k - 1) = k - 1 := by have := hI.1; have := hI.2; unfold wrap64; omega
        rw [hb, if_neg (by simp)] at few
        clear g1 G
        go_wp2_with (first
          | (go_at_call 124; refine (rtag_calls w0 wr g _ s' Hr.ok hS).mono ?_; rintro _ w2 ⟨rfl, R2⟩; have H2 := Hr.call R2; have own2 := own_frame hown (fun k hk => R2.kept.block k (hown.lt k hk).2 (by have := (hown.lt k hk).1; have := Hr.lt; omega)); clear R2 hown Hr c1 bk)
          | ((with_reducible show wpList _ _ _ (⟨some 24, _, _, _, _, _⟩ :: _) _ _); refine wpList_append_rv el_tag rfl (.tmp 20) (.tmp 23) rfl w.heap.size _ out.length (fl tgC out) rfl (own_below own2 ((Below.refl _ _).alloc (Nat.le_refl _) _) (fun k hk => (own2.lt k hk).2)) (some ⟨w2.heap.size, 0, none⟩) 1 1 (tgC (pTag s').1) rfl rfl (RV.new w2 (tgC (pTag s').1) 25 (0, 0)) (tgC_one _) ?f2 ?f3 ?f4 ?_))
        case f2 => unfold maxLen; omega
        case f3 => omega
        case f4 => have := H2.size; simp; omega
        intro v' w3 hown' gr hv
        have H3 := H2.more (((Kept.refl (fun k => w.heap.size ≤ k) w2).alloc _).grown gr (fun k hk => .inl (own2.lt k hk).1))
        clear own2 gr hv H2
        go_wp2_with fail
        go_roundw
        case rel => exact ⟨k - 1, out ++ [(pTag s').1], (pTag s').2, congrArg (Value.int IntKind.i64) wk, ⟨by have := hI.1; omega, by have := hI.2; omega⟩, by rw [List.length_append, fl_append, fl_one]; exact hown', H3, G2, by rw [List.length_append, List.length_singleton]; omega⟩
        case measure => simp [intOf]; omega
      · rw [hb] at c1
        have G2 := G.out
        rw [go_zero pTag _ _ _ (.inr hb)] at G2
        clear G
        go_wp2_with fail
        go_ret
        obtain ⟨r, hv, hl, hr⟩ := RowN.of_own (c := tgC) hown
        rw [← G2]
        exact ⟨r, congrArg Ending.returned hv, hl, hr, Hr.done⟩
    · have dk : decide (0 < k) = false := decide_eq_false hk
      have G2 := G.out
      rw [go_zero pTag _ _ _ (.inl (by omega))] at G2
      clear G
      go_wp2_with fail
      go_ret
      obtain ⟨r, hv, hl, hr⟩ := RowN.of_own (c := tgC) hown
      rw [← G2]
      exact ⟨r, congrArg Ending.returned hv, hl, hr, Hr.done⟩
theorem info_spec : (Tryz.prog.info? 74).map (fun i => (i.zero, i.size, i.bytes)) = some (some (.agg #[.int .i64 0, .int .i64 0]), 2, 16) := by kernel_rfl
theorem el_spec : El Tryz.prog 22 74 (.agg #[.int .i64 0, .int .i64 0]) 2 16 := ⟨info_parts info_spec, Tryz.underlying22, rfl, by decide⟩
set_option maxRecDepth 100000 in
set_option maxHeartbeats 1600000 in
theorem specs_read (w0 w : World) (g : Nat) (F : Nat → Prop) (s : RdS) (H : RdOK w0 w g F s) (hS : Std w0) (bx : Nat) (hbx : Blk w bx 89 #[.pointer (some ⟨g, 0, none⟩)]) :
    Calls Tryz.prog 125 #[.pointer (some ⟨g, 0, none⟩), .func (.func 126) #[] #[.pointer (some ⟨bx, 0, none⟩)]] w
      fun e w' => ∃ r : Row Spn, e = .returned r.val ∧ r.l = (pList pSpan s).1 ∧ RowN spC w.heap.size w' r ∧ Reads w0 g F (pList pSpan s).2 w w' := by
  have H0 := Hold.start H
  have hxg := box_ne H hbx
  have N1 := num_eats.one s
  have fw := H.few
  have hI := pNum_i64 s
  go_enter Tryz.func125, Tryz.ntmps125
  go_wp2_with (go_at_call 79; refine (rnum_calls w0 w g _ s H0.ok hS).mono ?_; rintro _ w1 ⟨rfl, R1⟩; have H1 := H0.call R1; clear R1)
  have G0 : Hid (pGo pSpan (pNum s).1.toNat [] (pNum s).2 = pList pSpan s) := Lib.hid rfl
  generalize hst : pNum s = q at *
  obtain ⟨k0, s1⟩ := q
  clear hst
  dsimp only at G0 N1 hI H1
  go_loopw [5, 6] (fun v n wr => ∃ (k : Int) (out : List Spn) (s' : RdS), n = .int .i64 k ∧ I64 k ∧ wr.ownsRow w.heap.size 74 2 v out.length (fl spC out) ∧ Hold w0 w g F s' wr ∧ Hid (pGo pSpan k.toNat out s' = pList pSpan s) ∧ out.length + s'.1.length ≤ s.1.length + (if s'.2 = true then 1 else 0)) (fun _ n _ => (intOf n).toNat)
  case atStart => exact ⟨k0, [], s1, rfl, hI, ⟨rfl, .inl ⟨rfl, rfl⟩⟩, H1, G0, by show 0 + _ ≤ _; omega⟩
  case round =>
    clear N1 hI H1 G0 H0
    obtain ⟨k, out, s', rfl, hI, hown, Hr, G, few⟩ := hrel
    obtain ⟨u, bk⟩ := Hr.ok.bad_
    have bx1 : Blk wr bx 89 #[.pointer (some ⟨g, 0, none⟩)] := (Hr.kept.block bx hbx.lt hxg).trans hbx
    have c1 := bk.at_ (i := 1) (v := .bool s'.2) rfl
    obtain ⟨A, c, rfl, hnc, hcm⟩ := own_form hown
    by_cases hk : 0 < k
    · have dk : decide (0 < k) = true := decide_eq_true hk
      cases hb : s'.2
      · rw [hb] at c1
        have g1 := go_succ pSpan k out s' hk hb
        have G2 : pGo pSpan (k - 1).toNat (out ++ [(pSpan s').1]) (pSpan s').2 = pList pSpan s := g1.symm.trans G.out
        replace G2 := Lib.hid G2
        have few2 := span_eats.one s'
        have wk : wrap64 (k - 1) = k - 1 := by have := hI.1; have := hI.2; unfold wrap64; omega
        rw [hb, if_neg (by simp)] at few
        clear g1 G
        go_wp2_with (first
          | (go_at_call 126; refine (spec_one w0 wr g _ s' Hr.ok hS bx bx1).mono ?_; rintro _ w2 ⟨rfl, R2⟩; have H2 := Hr.call R2; have own2 := own_frame hown (fun k hk => R2.kept.block k (hown.lt k hk).2 (by have := (hown.lt k hk).1; have := Hr.lt; omega)); clear R2 hown Hr c1 bk)
          | ((with_reducible show wpList _ _ _ (⟨some 24, _, _, _, _, _⟩ :: _) _ _); refine wpList_append_rv el_spec rfl (.tmp 20) (.tmp 23) rfl w.heap.size _ out.length (fl spC out) rfl (own_below own2 ((Below.refl _ _).alloc (Nat.le_refl _) _) (fun k hk => (own2.lt k hk).2)) (some ⟨w2.heap.size, 0, none⟩) 1 1 (spC (pSpan s').1) rfl rfl (RV.new w2 (spC (pSpan s').1) 74 (0, 0)) (spC_one _) ?f2 ?f3 ?f4 ?_))
        case f2 => unfold maxLen; omega
        case f3 => omega
        case f4 => have := H2.size; simp; omega
        intro v' w3 hown' gr hv
        have H3 := H2.more (((Kept.refl (fun k => w.heap.size ≤ k) w2).alloc _).grown gr (fun k hk => .inl (own2.lt k hk).1))
        clear own2 gr hv H2
        go_wp2_with fail
        go_roundw
        case rel => exact ⟨k - 1, out ++ [(pSpan s').1], (pSpan s').2, congrArg (Value.int IntKind.i64) wk, ⟨by have := hI.1; omega, by have := hI.2; omega⟩, by rw [List.length_append, fl_append, fl_one]; exact hown', H3, G2, by rw [List.length_append, List.length_singleton]; omega⟩
        case measure => simp [intOf]; omega
      · rw [hb] at c1
        have G2 := G.out
        rw [go_zero pSpan _ _ _ (.inr hb)] at G2
        clear G
        go_wp2_with fail
        go_ret
        obtain ⟨r, hv, hl, hr⟩ := RowN.of_own (c := spC) hown
        rw [← G2]
        exact ⟨r, congrArg Ending.returned hv, hl, hr, Hr.done⟩
    · have dk : decide (0 < k) = false := decide_eq_false hk
      have G2 := G.out
      rw [go_zero pSpan _ _ _ (.inl (by omega))] at G2
      clear G
      go_wp2_with fail
      go_ret
      obtain ⟨r, hv, hl, hr⟩ := RowN.of_own (c := spC) hown
      rw [← G2]
      exact ⟨r, congrArg Ending.returned hv, hl, hr, Hr.done⟩
theorem info_field : (Tryz.prog.info? 76).map (fun i => (i.zero, i.size, i.bytes)) = some (some (.agg #[.string ⟨#[]⟩, .string ⟨#[]⟩]), 2, 32) := by kernel_rfl
theorem el_field : El Tryz.prog 33 76 (.agg #[.string ⟨#[]⟩, .string ⟨#[]⟩]) 2 32 := ⟨info_parts info_field, Tryz.underlying33, rfl, by decide⟩
set_option maxRecDepth 100000 in
set_option maxHeartbeats 1600000 in
theorem fields_read (w0 w : World) (g : Nat) (F : Nat → Prop) (s : RdS) (H : RdOK w0 w g F s) (hS : Std w0) (bx : Nat) (hbx : Blk w bx 89 #[.pointer (some ⟨g, 0, none⟩)]) :
    Calls Tryz.prog 129 #[.pointer (some ⟨g, 0, none⟩), .func (.func 130) #[] #[.pointer (some ⟨bx, 0, none⟩)]] w
      fun e w' => ∃ r : Row Fld, e = .returned r.val ∧ r.l = (pList pFld s).1 ∧ RowN fdC w.heap.size w' r ∧ Reads w0 g F (pList pFld s).2 w w' := by
  have H0 := Hold.start H
  have hxg := box_ne H hbx
  have N1 := num_eats.one s
  have fw := H.few
  have hI := pNum_i64 s
  go_enter Tryz.func129, Tryz.ntmps129
  go_wp2_with (go_at_call 79; refine (rnum_calls w0 w g _ s H0.ok hS).mono ?_; rintro _ w1 ⟨rfl, R1⟩; have H1 := H0.call R1; clear R1)
  have G0 : Hid (pGo pFld (pNum s).1.toNat [] (pNum s).2 = pList pFld s) := Lib.hid rfl
  generalize hst : pNum s = q at *
  obtain ⟨k0, s1⟩ := q
  clear hst
  dsimp only at G0 N1 hI H1
  go_loopw [5, 6] (fun v n wr => ∃ (k : Int) (out : List Fld) (s' : RdS), n = .int .i64 k ∧ I64 k ∧ wr.ownsRow w.heap.size 76 2 v out.length (fl fdC out) ∧ Hold w0 w g F s' wr ∧ Hid (pGo pFld k.toNat out s' = pList pFld s) ∧ out.length + s'.1.length ≤ s.1.length + (if s'.2 = true then 1 else 0)) (fun _ n _ => (intOf n).toNat)
  case atStart => exact ⟨k0, [], s1, rfl, hI, ⟨rfl, .inl ⟨rfl, rfl⟩⟩, H1, G0, by show 0 + _ ≤ _; omega⟩
  case round =>
    clear N1 hI H1 G0 H0
    obtain ⟨k, out, s', rfl, hI, hown, Hr, G, few⟩ := hrel
    obtain ⟨u, bk⟩ := Hr.ok.bad_
    have bx1 : Blk wr bx 89 #[.pointer (some ⟨g, 0, none⟩)] := (Hr.kept.block bx hbx.lt hxg).trans hbx
    have c1 := bk.at_ (i := 1) (v := .bool s'.2) rfl
    obtain ⟨A, c, rfl, hnc, hcm⟩ := own_form hown
    by_cases hk : 0 < k
    · have dk : decide (0 < k) = true := decide_eq_true hk
      cases hb : s'.2
      · rw [hb] at c1
        have g1 := go_succ pFld k out s' hk hb
        have G2 : pGo pFld (k - 1).toNat (out ++ [(pFld s').1]) (pFld s').2 = pList pFld s := g1.symm.trans G.out
        replace G2 := Lib.hid G2
        have few2 := fld_eats.one s'
        have wk : wrap64 (k - 1) = k - 1 := by have := hI.1; have := hI.2; unfold wrap64; omega
        rw [hb, if_neg (by simp)] at few
        clear g1 G
        go_wp2_with (first
          | (go_at_call 130; refine (field_one w0 wr g _ s' Hr.ok hS bx bx1).mono ?_; rintro _ w2 ⟨rfl, R2⟩; have H2 := Hr.call R2; have own2 := own_frame hown (fun k hk => R2.kept.block k (hown.lt k hk).2 (by have := (hown.lt k hk).1; have := Hr.lt; omega)); clear R2 hown Hr c1 bk)
          | ((with_reducible show wpList _ _ _ (⟨some 24, _, _, _, _, _⟩ :: _) _ _); refine wpList_append_rv el_field rfl (.tmp 20) (.tmp 23) rfl w.heap.size _ out.length (fl fdC out) rfl (own_below own2 ((Below.refl _ _).alloc (Nat.le_refl _) _) (fun k hk => (own2.lt k hk).2)) (some ⟨w2.heap.size, 0, none⟩) 1 1 (fdC (pFld s').1) rfl rfl (RV.new w2 (fdC (pFld s').1) 76 (0, 0)) (fdC_one _) ?f2 ?f3 ?f4 ?_))
        case f2 => unfold maxLen; omega
        case f3 => omega
        case f4 => have := H2.size; simp; omega
        intro v' w3 hown' gr hv
        have H3 := H2.more (((Kept.refl (fun k => w.heap.size ≤ k) w2).alloc _).grown gr (fun k hk => .inl (own2.lt k hk).1))
        clear own2 gr hv H2
        go_wp2_with fail
        go_roundw
        case rel => exact ⟨k - 1, out ++ [(pFld s').1], (pFld s').2, congrArg (Value.int IntKind.i64) wk, ⟨by have := hI.1; omega, by have := hI.2; omega⟩, by rw [List.length_append, fl_append, fl_one]; exact hown', H3, G2, by rw [List.length_append, List.length_singleton]; omega⟩
        case measure => simp [intOf]; omega
      · rw [hb] at c1
        have G2 := G.out
        rw [go_zero pFld _ _ _ (.inr hb)] at G2
        clear G
        go_wp2_with fail
        go_ret
        obtain ⟨r, hv, hl, hr⟩ := RowN.of_own (c := fdC) hown
        rw [← G2]
        exact ⟨r, congrArg Ending.returned hv, hl, hr, Hr.done⟩
    · have dk : decide (0 < k) = false := decide_eq_false hk
      have G2 := G.out
      rw [go_zero pFld _ _ _ (.inl (by omega))] at G2
      clear G
      go_wp2_with fail
      go_ret
      obtain ⟨r, hv, hl, hr⟩ := RowN.of_own (c := fdC) hown
      rw [← G2]
      exact ⟨r, congrArg Ending.returned hv, hl, hr, Hr.done⟩
theorem info_part : (Tryz.prog.info? 78).map (fun i => (i.zero, i.size, i.bytes)) = some (some (.agg #[.string ⟨#[]⟩, .int .i64 0, .int .i64 0]), 3, 32) := by kernel_rfl
theorem el_part : El Tryz.prog 34 78 (.agg #[.string ⟨#[]⟩, .int .i64 0, .int .i64 0]) 3 32 := ⟨info_parts info_part, Tryz.underlying34, rfl, by decide⟩
set_option maxRecDepth 100000 in
set_option maxHeartbeats 1600000 in
theorem parts_read (w0 w : World) (g : Nat) (F : Nat → Prop) (s : RdS) (H : RdOK w0 w g F s) (hS : Std w0) (bx : Nat) (hbx : Blk w bx 89 #[.pointer (some ⟨g, 0, none⟩)]) :
    Calls Tryz.prog 131 #[.pointer (some ⟨g, 0, none⟩), .func (.func 132) #[] #[.pointer (some ⟨bx, 0, none⟩)]] w
      fun e w' => ∃ r : Row Prt, e = .returned r.val ∧ r.l = (pList pPrt s).1 ∧ RowN ptC w.heap.size w' r ∧ Reads w0 g F (pList pPrt s).2 w w' := by
  have H0 := Hold.start H
  have hxg := box_ne H hbx
  have N1 := num_eats.one s
  have fw := H.few
  have hI := pNum_i64 s
  go_enter Tryz.func131, Tryz.ntmps131
  go_wp2_with (go_at_call 79; refine (rnum_calls w0 w g _ s H0.ok hS).mono ?_; rintro _ w1 ⟨rfl, R1⟩; have H1 := H0.call R1; clear R1)
  have G0 : Hid (pGo pPrt (pNum s).1.toNat [] (pNum s).2 = pList pPrt s) := Lib.hid rfl
  generalize hst : pNum s = q at *
  obtain ⟨k0, s1⟩ := q
  clear hst
  dsimp only at G0 N1 hI H1
  go_loopw [5, 6] (fun v n wr => ∃ (k : Int) (out : List Prt) (s' : RdS), n = .int .i64 k ∧ I64 k ∧ wr.ownsRow w.heap.size 78 3 v out.length (fl ptC out) ∧ Hold w0 w g F s' wr ∧ Hid (pGo pPrt k.toNat out s' = pList pPrt s) ∧ out.length + s'.1.length ≤ s.1.length + (if s'.2 = true then 1 else 0)) (fun _ n _ => (intOf n).toNat)
  case atStart => exact ⟨k0, [], s1, rfl, hI, ⟨rfl, .inl ⟨rfl, rfl⟩⟩, H1, G0, by show 0 + _ ≤ _; omega⟩
  case round =>
    clear N1 hI H1 G0 H0
    obtain ⟨k, out, s', rfl, hI, hown, Hr, G, few⟩ := hrel
    obtain ⟨u, bk⟩ := Hr.ok.bad_
    have bx1 : Blk wr bx 89 #[.pointer (some ⟨g, 0, none⟩)] := (Hr.kept.block bx hbx.lt hxg).trans hbx
    have c1 := bk.at_ (i := 1) (v := .bool s'.2) rfl
    obtain ⟨A, c, rfl, hnc, hcm⟩ := own_form hown
    by_cases hk : 0 < k
    · have dk : decide (0 < k) = true := decide_eq_true hk
      cases hb : s'.2
      · rw [hb] at c1
        have g1 := go_succ pPrt k out s' hk hb
        have G2 : pGo pPrt (k - 1).toNat (out ++ [(pPrt s').1]) (pPrt s').2 = pList pPrt s := g1.symm.trans G.out
        replace G2 := Lib.hid G2
        have few2 := prt_eats.one s'
        have wk : wrap64 (k - 1) = k - 1 := by have := hI.1; have := hI.2; unfold wrap64; omega
        rw [hb, if_neg (by simp)] at few
        clear g1 G
        go_wp2_with (first
          | (go_at_call 132; refine (part_one w0 wr g _ s' Hr.ok hS bx bx1).mono ?_; rintro _ w2 ⟨rfl, R2⟩; have H2 := Hr.call R2; have own2 := own_frame hown (fun k hk => R2.kept.block k (hown.lt k hk).2 (by have := (hown.lt k hk).1; have := Hr.lt; omega)); clear R2 hown Hr c1 bk)
          | ((with_reducible show wpList _ _ _ (⟨some 24, _, _, _, _, _⟩ :: _) _ _); refine wpList_append_rv el_part rfl (.tmp 20) (.tmp 23) rfl w.heap.size _ out.length (fl ptC out) rfl (own_below own2 ((Below.refl _ _).alloc (Nat.le_refl _) _) (fun k hk => (own2.lt k hk).2)) (some ⟨w2.heap.size, 0, none⟩) 1 1 (ptC (pPrt s').1) rfl rfl (RV.new w2 (ptC (pPrt s').1) 78 (0, 0)) (ptC_one _) ?f2 ?f3 ?f4 ?_))
        case f2 => unfold maxLen; omega
        case f3 => omega
        case f4 => have := H2.size; simp; omega
        intro v' w3 hown' gr hv
        have H3 := H2.more (((Kept.refl (fun k => w.heap.size ≤ k) w2).alloc _).grown gr (fun k hk => .inl (own2.lt k hk).1))
        clear own2 gr hv H2
        go_wp2_with fail
        go_roundw
        case rel => exact ⟨k - 1, out ++ [(pPrt s').1], (pPrt s').2, congrArg (Value.int IntKind.i64) wk, ⟨by have := hI.1; omega, by have := hI.2; omega⟩, by rw [List.length_append, fl_append, fl_one]; exact hown', H3, G2, by rw [List.length_append, List.length_singleton]; omega⟩
        case measure => simp [intOf]; omega
      · rw [hb] at c1
        have G2 := G.out
        rw [go_zero pPrt _ _ _ (.inr hb)] at G2
        clear G
        go_wp2_with fail
        go_ret
        obtain ⟨r, hv, hl, hr⟩ := RowN.of_own (c := ptC) hown
        rw [← G2]
        exact ⟨r, congrArg Ending.returned hv, hl, hr, Hr.done⟩
    · have dk : decide (0 < k) = false := decide_eq_false hk
      have G2 := G.out
      rw [go_zero pPrt _ _ _ (.inl (by omega))] at G2
      clear G
      go_wp2_with fail
      go_ret
      obtain ⟨r, hv, hl, hr⟩ := RowN.of_own (c := ptC) hown
      rw [← G2]
      exact ⟨r, congrArg Ending.returned hv, hl, hr, Hr.done⟩
end Go.Proofs.YtiokbebodblhaaaGreatDoor
