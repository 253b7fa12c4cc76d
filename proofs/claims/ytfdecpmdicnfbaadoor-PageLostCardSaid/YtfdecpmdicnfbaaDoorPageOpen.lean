/-
  The document's Open: what a sector has.
-/
import Derived.Test.YtfdecpmdicnfbaaDoorPageTold
import Derived.Test.YtfdecpmdicnfbaaDoorPageSector
import Derived.Test.YtfdecpmdicnfbaaDoorPageLawC
import Derived.BigQuiet
import Derived.Deep.QuietTactic
import Derived.Deep.CutRange
import Derived.StillTailTactics
namespace Go.Proofs.YtfdecpmdicnfbaaDoor
open Go.RowKit DiskP SumP PageP

theorem cut_sub (l : List UInt8) (i j : Nat) : (bstr l).extract i j = bstr (PageP.sub l i j) := by
  rw [bstr_cut]
  unfold PageP.sub
  rw [List.drop_take]
/-- What Open gives back: where read finds a sector of a record, so does Open, of the same mark. -/
def RetOpen (l : List UInt8) (e : Ending) : Prop :=
  ∃ (kk mm lf ff : Int) (bb : ByteArray) (ok : Bool), e = .returned (.tuple #[.int .u8 kk, .int .i64 mm, .int .i64 lf, .int .i64 ff, .string bb, .bool ok]) ∧ ∀ x, rd l = some x → ok = true ∧ mm = x.mark
theorem RetOpen.no {l : List UInt8} (h : rd l = none) : RetOpen l (.returned (.tuple #[.int .u8 0, .int .i64 0, .int .i64 0, .int .i64 0, .string ⟨#[]⟩, .bool false])) :=
  ⟨0, 0, 0, 0, ⟨#[]⟩, false, rfl, fun x hx => by rw [h] at hx; cases hx⟩
theorem bAt_getD (l : List UInt8) (k : Nat) : bAt l k = ((l.getD k 0).toNat : Int) := by
  unfold bAt
  split
  · rename_i h
    simp [List.getD, h]
  · rename_i h
    simp [List.getD, List.getElem?_eq_none (Nat.le_of_not_lt h)]
theorem rd_parts {l : List UInt8} {x : Sec} (h : rd l = some x) {p NL : Nat} (hlp : l.length = p + 18) (hN : beN (PageP.sub l 9 13) = NL) :
    bAt l 0 ≠ 0 ∧ bAt l 13 ≤ 1 ∧ ¬ (NL = 0 ∧ bAt l 13 = 0) ∧ plainB (PageP.sub l (14 + min NL p) (p + 14)) = true ∧ be 4 (crc (l.take (p + 14))) = l.drop (p + 14) ∧ x.mark = sg64 (beN (PageP.sub l 1 9)) := by
  unfold rd at h
  split at h
  · rename_i hok
    injection h with h
    have hx : x.mark = sg64 (beN (PageP.sub l 1 9)) := by rw [← h]; rfl
    unfold rdOK at hok
    simp only [Bool.and_eq_true, Bool.or_eq_true, decide_eq_true_eq] at hok
    obtain ⟨⟨⟨⟨⟨⟨h19, hsum⟩, hk⟩, h13⟩, hbig⟩, hfl⟩, hpl⟩ := hok
    have hm : rdMany l = min NL p := by unfold rdMany; rw [hN]; omega
    rw [show l.length - 4 = p + 14 by omega] at hsum hpl
    rw [hm] at hpl
    refine ⟨?_, ?_, ?_, hpl, ?_, hx⟩
    · rw [bAt_getD]
      intro e
      apply hk
      rw [← UInt8.toNat_inj]
      show (l.getD 0 0).toNat = 0
      omega
    · rw [bAt_getD]; omega
    · rintro ⟨e1, e2⟩
      rw [bAt_getD] at e2
      rcases hfl with h1 | h1
      · rw [h1] at e2; cases e2
      · rw [hN] at h1; exact h1 e1
    · refine beN_inj 4 _ _ (be_len _ _) (by simp; omega) ?_
      rw [beN_be 4 _ (crc_lt _), hsum]
  · cases h
attribute [local go_sem] bstr_add cut_sub
theorem ropen_short (l : List UInt8) (w : World) (h : l.length < 19) : Calls Tryd.prog 24 #[.string (bstr l)] w fun e w' => RetOpen l e ∧ Below w.heap.size w w' := by
  have hr : rd l = none := by unfold rd rdOK; rw [show decide (19 ≤ l.length) = false by simp; omega]; rfl
  have HE := Lib.hid (RetOpen.no hr)
  have hs : (bstr l).size = l.length := rfl
  have PC := rper_calls (l.length : Int) w
  rw [show per (l.length : Int) = 0 from if_pos (.inl (by omega))] at PC
  clear hr
  go_enter Tryd.func24, Tryd.ntmps24
  go_wp2_with fail
  refine PC.mono ?_
  rintro e w1 ⟨rfl, rfl⟩
  clear PC
  go_wp2
  refine bodyPost_ret (v := .tuple #[.int .u8 0, .int .i64 0, .int .i64 0, .int .i64 0, .string ⟨#[]⟩, .bool false]) (by simp [results, Tryd.results24, go_sem]) rfl ?_
  exact ⟨HE.out, Below.refl _ _⟩
set_option maxHeartbeats 6400000 in
set_option maxRecDepth 100000 in
theorem ropen_long (l : List UInt8) (w : World) (h : 19 ≤ l.length) (h4 : l.length ≤ 4096) : Calls Tryd.prog 24 #[.string (bstr l)] w fun e w' => RetOpen l e ∧ Below w.heap.size w w' := by
  obtain ⟨p, hlp⟩ : ∃ p, l.length = p + 18 := ⟨l.length - 18, by omega⟩
  have hp1 : 1 ≤ p := by omega
  have hp2 : p ≤ 4078 := by omega
  have hs : (bstr l).size = l.length := rfl
  have hb := get_bAt l
  have PC := rper_calls (l.length : Int) w
  rw [show per (l.length : Int) = (p : Int) by unfold per; rw [if_neg (by omega)]; omega] at PC
  obtain ⟨NL, hNL⟩ : ∃ n, beN (PageP.sub l 9 13) = n := ⟨_, rfl⟩
  have hNb : NL < 4294967296 := by
    have h1 := beN_lt (PageP.sub l 9 13)
    rw [sub_len _ _ _ (by omega)] at h1
    rw [← hNL]
    exact h1
  have C1 : ∀ w' : World, Calls Tryd.prog 39 #[.string (bstr (PageP.sub l 1 9))] w' fun e w2 => e = .returned (.int .i64 (sg64 (beN (PageP.sub l 1 9)))) ∧ w2 = w' := fun w' => (rnumber_calls (PageP.sub l 1 9) (by rw [sub_len _ _ _ (by omega)]; omega) w').mono fun _ _ ⟨a, c⟩ => ⟨a, c.symm⟩
  have C2 : ∀ w' : World, Calls Tryd.prog 39 #[.string (bstr (PageP.sub l 9 13))] w' fun e w2 => e = .returned (.int .i64 (NL : Int)) ∧ w2 = w' := fun w' => (rnumber_calls (PageP.sub l 9 13) (by rw [sub_len _ _ _ (by omega)]; omega) w').mono fun _ _ ⟨a, c⟩ => ⟨by rw [a, hNL]; unfold sg64; rw [if_pos (by omega)], c.symm⟩
  have HLP := Lib.hid hlp
  have HNL := Lib.hid hNL
  have hl13 : 13 < l.length := by omega
  have hl0 : 0 < l.length := by omega
  have i0 : (0 : Int) < (l.length : Int) := by omega
  have i13 : (13 : Int) < (l.length : Int) := by omega
  have i9 : (9 : Int) ≤ (l.length : Int) := by omega
  have i13' : (13 : Int) ≤ (l.length : Int) := by omega
  clear hlp hNL
  go_enter Tryd.func24, Tryd.ntmps24
  go_wp2_with fail
  refine PC.mono ?_
  rintro e w1 ⟨rfl, rfl⟩
  clear PC
  go_wp2_with fail
  go_quiet (first
    | (go_at_call 39; (with_reducible refine Calls.quiet_of_same (C1 _)))
    | (go_at_call 39; (with_reducible refine Calls.quiet_of_same (C2 _))))
  clear C1 C2
  generalize hmk : sg64 (beN (PageP.sub l 1 9)) = mk at *
  have HMK := Lib.hid hmk
  clear hmk
  have bq : Below w.heap.size w (w.drewN nq) := ⟨rfl, rfl, rfl, Nat.le_refl _, fun _ _ => rfl⟩
  generalize w.drewN nq = w2 at *
  have RP := Lib.hid (fun (x : Sec) (hx : rd l = some x) => rd_parts hx HLP.out HNL.out)
  obtain ⟨q, hq⟩ : ∃ q, min NL p = q := ⟨_, rfl⟩
  have hqp : q ≤ p := by omega
  go_upto_if 29 with fail
  go_cut [12] from 30 to 30 (fun v wx => v = .int .i64 (q : Int) ∧ wx = w2)
  case first =>
    by_cases hA : NL < p
    · have d1 : decide ((NL : Int) < (p : Int)) = true := decide_eq_true (by omega)
      have d1' : decide (NL < p) = true := decide_eq_true hA
      have HQ : Hid (NL = q) := by show _ = _; omega
      clear hq
      go_wp2_with fail
      go_meet
      exact ⟨by rw [HQ.out], rfl⟩
    · have d1 : decide ((NL : Int) < (p : Int)) = false := decide_eq_false (by omega)
      have d1' : decide (NL < p) = false := decide_eq_false hA
      have HQ : Hid (p = q) := by show _ = _; omega
      clear hq
      go_wp2_with fail
      go_meet
      exact ⟨by rw [HQ.out], rfl⟩
  case rest =>
    obtain ⟨rfl, rfl⟩ := hcut
    obtain ⟨w2, rfl⟩ : ∃ x : World, x = wc := ⟨_, rfl⟩
    have HQ := Lib.hid hq
    clear hq
    have HE : Hid (rd l = none → ∀ w', Below w.heap.size w w' → RetOpen l (.returned (.tuple #[.int .u8 0, .int .i64 0, .int .i64 0, .int .i64 0, .string ⟨#[]⟩, .bool false])) ∧ Below w.heap.size w w') := fun hn w' hb => ⟨RetOpen.no hn, hb⟩
    by_cases c0 : bAt l 0 = 0
    · have e0 : (bAt l 0 == 0) = true := by rw [c0]; rfl
      have hn : rd l = none := by
        cases hr : rd l with
        | none => rfl
        | some x => exact absurd c0 (RP.out x hr).1
      have HF := Lib.hid (HE.out hn)
      clear c0 hn
      go_wp2_with fail
      go_quiet (fail)
      go_wp2
      refine bodyPost_ret (v := .tuple #[.int .u8 0, .int .i64 0, .int .i64 0, .int .i64 0, .string ⟨#[]⟩, .bool false]) (by simp [results, Tryd.results24, go_sem]) rfl (HF.out _ ⟨bq.os, bq.tape, bq.output, bq.size, bq.block⟩)
    have e0 : (bAt l 0 == 0) = false := beq_eq_false_iff_ne.2 c0
    by_cases c13 : 1 < bAt l 13
    · have e1 : decide (1 < bAt l 13) = true := decide_eq_true c13
      have hn : rd l = none := by
        cases hr : rd l with
        | none => rfl
        | some x => have := (RP.out x hr).2.1; omega
      have HF := Lib.hid (HE.out hn)
      clear c0 hn c13
      go_wp2_with fail
      go_quiet (fail)
      go_wp2
      refine bodyPost_ret (v := .tuple #[.int .u8 0, .int .i64 0, .int .i64 0, .int .i64 0, .string ⟨#[]⟩, .bool false]) (by simp [results, Tryd.results24, go_sem]) rfl (HF.out _ ⟨bq.os, bq.tape, bq.output, bq.size, bq.block⟩)
    have e1 : decide (1 < bAt l 13) = false := decide_eq_false c13
    by_cases cz : NL = 0 ∧ bAt l 13 = 0
    · have e2 : ((NL : Int) == 0) = true := by rw [cz.1]; rfl
      have e3 : (bAt l 13 == 0) = true := by rw [cz.2]; rfl
      have hn : rd l = none := by
        cases hr : rd l with
        | none => rfl
        | some x => exact absurd cz (RP.out x hr).2.2.1
      have HF := Lib.hid (HE.out hn)
      clear c0 hn c13 cz
      go_wp2_with fail
      go_quiet (fail)
      go_wp2
      refine bodyPost_ret (v := .tuple #[.int .u8 0, .int .i64 0, .int .i64 0, .int .i64 0, .string ⟨#[]⟩, .bool false]) (by simp [results, Tryd.results24, go_sem]) rfl (HF.out _ ⟨bq.os, bq.tape, bq.output, bq.size, bq.block⟩)
    have e23 : ((NL : Int) == 0) = false ∨ (((NL : Int) == 0) = true ∧ (bAt l 13 == 0) = false) := by
      by_cases h0 : NL = 0
      · exact .inr ⟨by rw [h0]; rfl, beq_eq_false_iff_ne.2 (fun e => cz ⟨h0, e⟩)⟩
      · exact .inl (beq_eq_false_iff_ne.2 (by omega))
    have hlen4 : (l.length : Int) - 4 = (p : Int) + 14 := by have := HLP.out; omega
    have hle : p + 14 ≤ l.length := by have := HLP.out; omega
    have hleI : (p : Int) + 14 ≤ (l.length : Int) := by omega
    have hq14 : 14 + q ≤ p + 14 := by omega
    have hq14I : (14 : Int) + (q : Int) ≤ (p : Int) + 14 := by omega
    have SLC : ∀ w' : World, (Instr.slice 9 (.string (bstr l)) (some (.int .i64 (14 + (q : Int)))) (some (.int .i64 ((p : Int) + 14))) none).run Tryd.prog w' = .ok (.string (bstr (PageP.sub l (14 + q) (p + 14)))) w' := fun w' => by
      rw [run_slice_string w' 9 (bstr l) .i64 .i64 (14 + (q : Int)) ((p : Int) + 14) Tryd.underlying9 (by omega) (by omega) (by rw [hs]; omega), show (14 + (q : Int)).toNat = 14 + q by omega, show ((p : Int) + 14).toNat = p + 14 by omega, cut_sub]
    have SLL : ∀ w' : World, (Instr.slice 9 (.string (bstr l)) (some (.int .i64 ((p : Int) + 14))) none none).run Tryd.prog w' = .ok (.string (bstr (l.drop (p + 14)))) w' := fun w' => by
      rw [run_slice_string_l w' 9 (bstr l) Tryd.underlying9 .i64 ((p : Int) + 14) (by omega) (by rw [hs]; omega), show ((p : Int) + 14).toNat = p + 14 by omega, hs, cut_tail]
    have SLH : ∀ w' : World, (Instr.slice 9 (.string (bstr l)) none (some (.int .i64 ((p : Int) + 14))) none).run Tryd.prog w' = .ok (.string (bstr (l.take (p + 14)))) w' := fun w' => by
      rw [run_slice_string_h w' 9 (bstr l) Tryd.underlying9 .i64 ((p : Int) + 14) (by omega) (by rw [hs]; omega), show ((p : Int) + 14).toNat = p + 14 by omega, cut_head]
    have PL : ∀ w' : World, Calls Tryd.prog 35 #[.string (bstr (PageP.sub l (14 + q) (p + 14)))] w' fun e w3 => e = .returned (.bool (plainB (PageP.sub l (14 + q) (p + 14)))) ∧ w3 = w' := fun w' => (rplain_calls _ (by rw [sub_len _ _ _ (by have := HLP.out; omega)]; omega) w').mono fun _ _ ⟨a, c⟩ => ⟨a, c.symm⟩
    cases hpl : plainB (PageP.sub l (14 + q) (p + 14)) with
    | false =>
      rw [hpl] at PL
      have hn : rd l = none := by
        cases hr : rd l with
        | none => rfl
        | some x => have := (RP.out x hr).2.2.2.1; rw [HQ.out, hpl] at this; cases this
      have HF := Lib.hid (HE.out hn)
      clear c0 hn c13 cz hpl
      rcases e23 with e2 | ⟨e2, e3⟩
      all_goals
        go_wp2_with fail
        go_quiet (first | (go_at_call 35; (with_reducible refine Calls.quiet_of_same (PL _))))
        go_wp2
        refine bodyPost_ret (v := .tuple #[.int .u8 0, .int .i64 0, .int .i64 0, .int .i64 0, .string ⟨#[]⟩, .bool false]) (by simp [results, Tryd.results24, go_sem]) rfl (HF.out _ ⟨bq.os, bq.tape, bq.output, bq.size, bq.block⟩)
    | true =>
      rw [hpl] at PL
      have SLD : ∀ w' : World, (Instr.slice 9 (.string (bstr l)) (some (.int .i64 14)) (some (.int .i64 (14 + (q : Int)))) none).run Tryd.prog w' = .ok (.string (bstr (PageP.sub l 14 (14 + q)))) w' := fun w' => by
        rw [run_slice_string w' 9 (bstr l) .i64 .i64 14 (14 + (q : Int)) Tryd.underlying9 (by omega) (by omega) (by rw [hs]; omega), show (14 : Int).toNat = 14 by rfl, show (14 + (q : Int)).toNat = 14 + q by omega, cut_sub]
      have hTl : (l.take (p + 14)).length = p + 14 := by rw [List.length_take]; omega
      obtain ⟨cc, wv, hcv0, rb, bb⟩ := conv_bytes (l.take (p + 14)) w2.drew
      rw [hTl] at hcv0
      have hcv : (convert 9 27 (.string (bstr (l.take (p + 14))))).run Tryd.prog w2.drew = .ok (.slice (some ⟨w2.heap.size, 0, none⟩) (p + 14) cc) wv := hcv0
      have OF : Calls Tryd.prog 37 #[.slice (some ⟨w2.heap.size, 0, none⟩) (p + 14) cc] wv fun e w' => e = .returned (.int .u32 ((crc (l.take (p + 14)) : Nat) : Int)) ∧ wv = w' := by
        have := refof_calls (l.take (p + 14)) (some ⟨w2.heap.size, 0, none⟩) cc wv (by omega) rb
        rw [hTl] at this
        exact this
      have hcr := crc_lt (l.take (p + 14))
      have BG : ∀ w' : World, Calls Tryd.prog 36 #[.int .i64 ((crc (l.take (p + 14)) : Nat) : Int), .int .i64 4] w' fun e w3 => e = .returned (.string (bstr (be 4 (crc (l.take (p + 14)))))) ∧ Below w'.heap.size w' w3 := fun w' => by
        have := big_calls ((crc (l.take (p + 14)) : Nat) : Int) 4 w' (by omega)
        rw [mk64_nat _ (by omega)] at this
        exact this
      have bb2 : Below w.heap.size w wv := bq.drew.trans (Below.mono bb bq.size)
      have HS : Hid (∀ x, rd l = some x → be 4 (crc (l.take (p + 14))) = l.drop (p + 14)) := fun x hx => (RP.out x hx).2.2.2.2.1
      have HM : Hid (∀ x, rd l = some x → mk = x.mark) := fun x hx => by rw [(RP.out x hx).2.2.2.2.2]; exact HMK.out.symm
      generalize crc (l.take (p + 14)) = C at *
      clear hcv0 rb bb hTl c0 c13 cz hpl
      have wa : IntKind.i64.wrap (14 + (q : Int)) = 14 + (q : Int) := by rw [IntKind.wrap_i64]; omega
      have wb2 : IntKind.i64.wrap ((p : Int) + 14) = (p : Int) + 14 := by rw [IntKind.wrap_i64]; omega
      have wb : IntKind.i64.wrap ((l.length : Int) - 4) = (p : Int) + 14 := by rw [IntKind.wrap_i64]; omega
      have wc2 : IntKind.i64.wrap ((C : Nat) : Int) = (C : Int) := by rw [IntKind.wrap_i64]; omega
      obtain ⟨z13, z13'⟩ := bAt_le l 13
      have e2n : (NL == 0) = ((NL : Int) == 0) := by rw [Bool.eq_iff_iff, beq_iff_eq, beq_iff_eq]; omega
      rcases e23 with e2 | ⟨e2, e3⟩
      · rw [e2] at e2n
        go_wp2_with fail
        first
        | (go_region_held (fun wq => True) (exact trivial) (first
          | (go_at_call 35; (with_reducible refine (PL _).mono ?_); rintro e w3 ⟨rfl, rfl⟩)
          | (go_at_call 37; (with_reducible refine OF.mono ?_); rintro e w3 ⟨rfl, rfl⟩)
          | (go_at_call 36; (with_reducible refine (BG _).mono ?_); rintro e w9 ⟨rfl, b9⟩)))
        | fail "region"
        have bel9 := bb2.trans (b9.mono bb2.size)
        by_cases hsum : l.drop (p + 14) = be 4 C
        · have fs : ((bstr (l.drop (p + 14))).toList == (bstr (be 4 C)).toList) = true := by rw [hsum]; simp
          have fs' : (!((bstr (l.drop (p + 14))).toList == (bstr (be 4 C)).toList)) = false := by rw [fs]; rfl
          clear hsum
          go_wp2_with fail
          · rename_i hx
            rw [fs'] at hx
            cases hx
          go_quiet (fail)
          go_wp2
          refine bodyPost_ret (v := .tuple #[.int .u8 (bAt l 0), .int .i64 mk, .int .i64 (NL : Int), .int .i64 (bAt l 13), .string (bstr (PageP.sub l 14 (14 + q))), .bool true]) (by simp [results, Tryd.results24, go_sem]) rfl ⟨⟨_, _, _, _, _, true, rfl, fun x hx => ⟨rfl, HM.out x hx⟩⟩, bel9.os, bel9.tape, bel9.output, bel9.size, bel9.block⟩
        · have fs : ((bstr (l.drop (p + 14))).toList == (bstr (be 4 C)).toList) = false := by
            rw [bstr_list, bstr_list, beq_eq_false_iff_ne]
            exact hsum
          have fs' : (!((bstr (l.drop (p + 14))).toList == (bstr (be 4 C)).toList)) = true := by rw [fs]; rfl
          have hn : rd l = none := by
            cases hr : rd l with
            | none => rfl
            | some x => exact absurd (HS.out x hr).symm hsum
          have HF := Lib.hid (HE.out hn)
          clear hsum hn
          go_wp2
          · refine bodyPost_ret (v := .tuple #[.int .u8 0, .int .i64 0, .int .i64 0, .int .i64 0, .string ⟨#[]⟩, .bool false]) (by simp [results, Tryd.results24, go_sem]) rfl (HF.out _ bel9)
          · have hx : (!((bstr (l.drop (p + 14))).toList == (bstr (be 4 C)).toList)) = false := by assumption
            rw [fs'] at hx
            cases hx
      · rw [e2] at e2n
        go_wp2_with fail
        first
        | (go_region_held (fun wq => True) (exact trivial) (first
          | (go_at_call 35; (with_reducible refine (PL _).mono ?_); rintro e w3 ⟨rfl, rfl⟩)
          | (go_at_call 37; (with_reducible refine OF.mono ?_); rintro e w3 ⟨rfl, rfl⟩)
          | (go_at_call 36; (with_reducible refine (BG _).mono ?_); rintro e w9 ⟨rfl, b9⟩)))
        | fail "region"
        have bel9 := bb2.trans (b9.mono bb2.size)
        by_cases hsum : l.drop (p + 14) = be 4 C
        · have fs : ((bstr (l.drop (p + 14))).toList == (bstr (be 4 C)).toList) = true := by rw [hsum]; simp
          have fs' : (!((bstr (l.drop (p + 14))).toList == (bstr (be 4 C)).toList)) = false := by rw [fs]; rfl
          clear hsum
          go_wp2_with fail
          · rename_i hx
            rw [fs'] at hx
            cases hx
          go_quiet (fail)
          go_wp2
          refine bodyPost_ret (v := .tuple #[.int .u8 (bAt l 0), .int .i64 mk, .int .i64 (NL : Int), .int .i64 (bAt l 13), .string (bstr (PageP.sub l 14 (14 + q))), .bool true]) (by simp [results, Tryd.results24, go_sem]) rfl ⟨⟨_, _, _, _, _, true, rfl, fun x hx => ⟨rfl, HM.out x hx⟩⟩, bel9.os, bel9.tape, bel9.output, bel9.size, bel9.block⟩
        · have fs : ((bstr (l.drop (p + 14))).toList == (bstr (be 4 C)).toList) = false := by
            rw [bstr_list, bstr_list, beq_eq_false_iff_ne]
            exact hsum
          have fs' : (!((bstr (l.drop (p + 14))).toList == (bstr (be 4 C)).toList)) = true := by rw [fs]; rfl
          have hn : rd l = none := by
            cases hr : rd l with
            | none => rfl
            | some x => exact absurd (HS.out x hr).symm hsum
          have HF := Lib.hid (HE.out hn)
          clear hsum hn
          go_wp2
          · refine bodyPost_ret (v := .tuple #[.int .u8 0, .int .i64 0, .int .i64 0, .int .i64 0, .string ⟨#[]⟩, .bool false]) (by simp [results, Tryd.results24, go_sem]) rfl (HF.out _ bel9)
          · have hx : (!((bstr (l.drop (p + 14))).toList == (bstr (be 4 C)).toList)) = false := by assumption
            rw [fs'] at hx
            cases hx
theorem ropen_calls (l : List UInt8) (w : World) (h4 : l.length ≤ 4096) : Calls Tryd.prog 24 #[.string (bstr l)] w fun e w' => RetOpen l e ∧ Below w.heap.size w w' := by
  by_cases h : 19 ≤ l.length
  · exact ropen_long l w h h4
  · exact ropen_short l w (by omega)
end Go.Proofs.YtfdecpmdicnfbaaDoor
