/-
  The walk of a log's newest: the greatest number of a line that is meant.
-/
import Derived.Test.YtdcjljlppeighaaDoorPurgeLog
namespace Go.Proofs.YtdcjljlppeighaaDoor
open Go.RowKit PurgeP

/-- A line's three cells. -/
theorem line_at {w : World} {base g c : Nat} {ls : List LnR} {t : TypeId} (h : w.ownsRow base t 3 (.slice (some ⟨g, 0, none⟩) ls.length c) ls.length (lC ls)) {k : Nat} {x : LnR} (hk : ls[k]? = some x) :
    w.cell? ⟨g, k * 3, none⟩ = some (.int .i64 x.no) ∧ w.cell? ⟨g, k * 3 + 1, none⟩ = some (.slice x.A x.keys.length x.cap) ∧ w.cell? ⟨g, k * 3 + 2, none⟩ = some (.bool x.hard) := by
  have hlt : k < ls.length := (List.getElem?_eq_some_iff.1 hk).1
  have a0 := lC_get ls k 0 (by omega)
  have a1 := lC_get ls k 1 (by omega)
  have a2 := lC_get ls k 2 (by omega)
  rw [hk] at a0 a1 a2
  have hl := lC_len ls
  rw [h.cellAt _ (by omega), h.cellAt _ (by omega), h.cellAt _ (by omega)]
  exact ⟨a0, a1, a2⟩
theorem row_blk {w : World} {base g0 : Nat} {ls : List LnR} {v : Value} {t : TypeId} (h : w.ownsRow base t 3 v ls.length (lC ls)) (hn : g0 < ls.length) : ∃ g c, v = .slice (some ⟨g, 0, none⟩) ls.length c ∧ base ≤ g ∧ g < w.heap.size := by
  rcases h.2 with ⟨_, h0⟩ | ⟨g, cap, cur, rfl, h1, h2, _⟩
  · omega
  · exact ⟨g, cap, rfl, h1, lt_of_block h2⟩
/-- The scan from the end. -/
theorem newest_max {l : PLog} (h : l.OK) (behind upTo : Int) (p : Ln → Bool) :
    l.newest behind upTo p = lastG l.ls (max behind 0) upTo p (if max behind 0 < min upTo l.floor then min upTo l.floor else 0) := by
  unfold PLog.newest
  have e1 : under l.floor behind upTo = if max behind 0 < min upTo l.floor then min upTo l.floor else 0 := by
    unfold under
    by_cases h1 : max behind 0 < min upTo l.floor
    · rw [if_pos h1, if_neg (by omega)]
    · rw [if_neg h1, if_pos (by omega)]
  rw [e1]
  generalize (if max behind 0 < min upTo l.floor then min upTo l.floor else 0) = n
  have hno : ∀ x ∈ l.ls, 1 ≤ x.no := fun x hx => ((right_iff x).1 (h.rt x hx)).1.1
  revert hno
  generalize l.ls = ls
  induction ls generalizing n with
  | nil => intro _; rfl
  | cons x ls ih =>
    intro hno
    rw [lastG_cons, lastG_cons]
    have h1 := hno x (by simp)
    have e : (behind < x.no ∧ x.no ≤ upTo ∧ p x = true) = (max behind 0 < x.no ∧ x.no ≤ upTo ∧ p x = true) := by
      have : (behind < x.no) = (max behind 0 < x.no) := by rw [eq_iff_iff]; omega
      rw [this]
    simp only [e]
    exact ih _ fun y hy => hno y (by simp [hy])
theorem scan_stop {l : PLog} (h : l.OK) {k : Nat} {x : Ln} (hx : l.ls[k]? = some x) {b upTo n : Int} {p : Ln → Bool} (hb : ¬ b < x.no) : lastG (l.ls.take (k + 1)) b upTo p n = n := by
  refine lastG_none _ _ _ _ _ fun y hy => ?_
  obtain ⟨i, hi, rfl⟩ := List.getElem_of_mem hy
  rw [List.length_take] at hi
  rw [List.getElem_take]
  have h1 := h.no k x hx
  have h2 := h.no i _ (List.getElem?_eq_getElem (by omega))
  omega
theorem scan_snoc {ls : List Ln} {k : Nat} {x : Ln} (hx : ls[k]? = some x) (b upTo n : Int) (p : Ln → Bool) : lastG (ls.take (k + 1)) b upTo p n = if b < x.no ∧ x.no ≤ upTo ∧ p x = true then x.no else lastG (ls.take k) b upTo p n := by
  obtain ⟨hlt, rfl⟩ := List.getElem?_eq_some_iff.1 hx
  rw [List.take_succ_eq_append_getElem hlt, lastG_snoc]
/-- What the closure answers at any of the lines. -/
def MeansAt (g : Nat) (lb : Array Value) (p : Ln → Bool) (ls : List LnR) (w : World) : Prop :=
  ∀ (W : World) (x : LnR), x ∈ ls → Below w.heap.size w W → Calls Tryd.prog g (#[.agg x.cells.toArray] ++ lb) W fun e w' => e = .returned (.bool (p x.abs)) ∧ Below W.heap.size W w'
/-- What newest tells. -/
def RetNum (n : Int) (w : World) (e : Ending) (w' : World) : Prop := e = .returned (.int .i64 n) ∧ Below w.heap.size w w'
set_option maxHeartbeats 3200000 in
set_option maxRecDepth 100000 in
theorem newest_pos (y : LogR) (behind upTo : Int) (hbe : 0 ≤ behind) (g : Nat) (lb : Array Value) (p : Ln → Bool) (eg : ∀ args w, (callFunc g args).run Tryd.prog w = .ok (.enter g args) w) (w : World) (base : Nat) (X : Nat → Prop) (h : LogOK w base X y) (hM : MeansAt g lb p y.ls w) :
    Calls Tryd.prog 40 #[.pointer (some ⟨y.D, 0, none⟩), .int .i64 behind, .int .i64 upTo, .func (.func g) #[] lb] w (RetNum (y.abs.newest behind upTo p) w) := by
  have hmx := newest_max h.ok behind upTo p
  rw [show max behind 0 = behind by omega] at hmx
  have hnl := h.len_le
  have HRES : Hid (y.abs.newest behind upTo p = lastG y.abs.ls behind upTo p (if behind < min upTo y.floor then min upTo y.floor else 0)) := hmx
  clear hmx
  have hle : y.abs.ls.length = y.ls.length := LogOK.abs_len
  obtain ⟨AV, cV, hv, _, _⟩ := own_form h.rk
  have dk := h.dk
  rw [hv] at dk
  have c0 : w.cell? ⟨y.D, 0, none⟩ = some (.int .i64 y.floor) := dk.at_ rfl
  have c1 : w.cell? ⟨y.D, 1, none⟩ = some (.slice AV y.ls.length cV) := dk.at_ rfl
  have HV := Lib.hid hv
  have HLE := Lib.hid hle
  have HS0 : Hid (lastG (y.abs.ls.take y.ls.length) behind upTo p (if behind < min upTo y.floor then min upTo y.floor else 0) = y.abs.newest behind upTo p) := by show _ = _; rw [HRES.out, ← hle, List.take_length]
  clear hv hle
  go_enter Tryd.func40, Tryd.ntmps40
  go_wp2
  clear c0 c1
  go_loopw [9] (fun i wr => ∃ k : Nat, k ≤ y.ls.length ∧ i = .int .i64 ((k : Int) - 1) ∧ lastG (y.abs.ls.take k) behind upTo p (if behind < min upTo y.floor then min upTo y.floor else 0) = y.abs.newest behind upTo p ∧ Below w.heap.size w wr) (fun i _ => (intOf i + 1).toNat)
  case atStart => exact ⟨y.ls.length, Nat.le_refl _, rfl, HS0.out, Below.refl _ _⟩
  case round =>
    obtain ⟨k, hk, rfl, hS, bel⟩ := hrel
    have hr := h.below bel
    have dkr := hr.dk
    rw [HV.out] at dkr
    have c0 : wr.cell? ⟨y.D, 0, none⟩ = some (.int .i64 y.floor) := dkr.at_ rfl
    have c1 : wr.cell? ⟨y.D, 1, none⟩ = some (.slice AV y.ls.length cV) := dkr.at_ rfl
    have HEND : Hid (lastG (y.abs.ls.take k) behind upTo p (if behind < min upTo y.floor then min upTo y.floor else 0) = (if behind < min upTo y.floor then min upTo y.floor else 0) → ∀ w', Below wr.heap.size wr w' → RetNum (y.abs.newest behind upTo p) w (.returned (.int .i64 (if behind < min upTo y.floor then min upTo y.floor else 0))) w') := fun e w' hb => ⟨by rw [← e, hS], bel.trans (hb.mono bel.size)⟩
    cases k with
    | zero =>
      have HF := Lib.hid (HEND.out (by rw [List.take_zero]; rfl))
      rw [show (((0 : Nat) : Int) - 1) = -1 by omega]
      clear HEND hS HS0 hM dkr
      by_cases hu : upTo ≤ y.floor
      · rw [show min upTo y.floor = upTo by omega] at HF
        by_cases hb : behind < upTo
        · have db : decide (behind < upTo) = true := decide_eq_true hb
          rw [if_pos hb] at HF
          go_wp2
          go_ret
          exact HF.out _ (Below.refl _ _)
        · have db : decide (behind < upTo) = false := decide_eq_false hb
          rw [if_neg hb] at HF
          go_wp2
          go_ret
          exact HF.out _ (Below.refl _ _)
      · rw [show min upTo y.floor = y.floor by omega] at HF
        by_cases hb : behind < y.floor
        · have db : decide (behind < y.floor) = true := decide_eq_true hb
          rw [if_pos hb] at HF
          go_wp2
          go_ret
          exact HF.out _ (Below.refl _ _)
        · have db : decide (behind < y.floor) = false := decide_eq_false hb
          rw [if_neg hb] at HF
          go_wp2
          go_ret
          exact HF.out _ (Below.refl _ _)
    | succ j =>
      rw [show (((j + 1 : Nat) : Int) - 1) = (j : Int) by omega]
      have hj : j < y.ls.length := by omega
      obtain ⟨x, hx⟩ : ∃ x, y.ls[j]? = some x := ⟨_, List.getElem?_eq_getElem hj⟩
      have hxa : y.abs.ls[j]? = some x.abs := by unfold LogR.abs; rw [List.getElem?_map, hx]; rfl
      have hxm : x ∈ y.ls := List.mem_of_getElem? hx
      have rkr := hr.rk
      obtain ⟨gg, cg, hvg, _, hgl⟩ := row_blk rkr hj
      have hAV : AV = some ⟨gg, 0, none⟩ := by have := HV.out.symm.trans hvg; injection this
      subst hAV
      rw [HV.out] at rkr
      obtain ⟨x0, x1, x2⟩ := line_at rkr hx
      have hsn := scan_snoc hxa behind upTo (if behind < min upTo y.floor then min upTo y.floor else 0) p
      have hst := fun hb => scan_stop h.ok hxa (b := behind) (upTo := upTo) (n := if behind < min upTo y.floor then min upTo y.floor else 0) (p := p) hb
      have hxno : x.abs.no = x.no := rfl
      have MC := hM wr x hxm bel
      have hjl : ((j : Int) < (y.ls.length : Int)) := by omega
      clear hvg rkr hx hxa hxm HS0
      by_cases hn : behind < x.no
      · have d1 : decide (behind < x.no) = true := decide_eq_true hn
        by_cases hu : x.no ≤ upTo
        · have d2 : decide (x.no ≤ upTo) = true := decide_eq_true hu
          cases hp : p x.abs with
          | true =>
            rw [hp] at MC
            have HF : Hid (∀ w', Below wr.heap.size wr w' → RetNum (y.abs.newest behind upTo p) w (.returned (.int .i64 x.no)) w') := fun w' hb => ⟨by rw [← hS, hsn]; rw [if_pos ⟨hn, hu, hp⟩]; rfl, bel.trans (hb.mono bel.size)⟩
            clear hsn hst hS HEND hp hM
            go_wp2_with fail
            refine MC.mono ?_
            clear MC
            rintro e w2 ⟨rfl, b2⟩
            have h2 := hr.below b2
            have dk2 := dkr.below b2 dkr.lt
            have e1 : w2.cell? ⟨y.D, 1, none⟩ = some (.slice (some ⟨gg, 0, none⟩) y.ls.length cV) := dk2.at_ rfl
            have e0 : w2.cell? ⟨gg, j * 3, none⟩ = some (.int .i64 x.no) := (b2.cell (p := ⟨gg, j * 3, none⟩) hgl).trans x0
            go_wp2
            go_ret
            exact HF.out _ b2
          | false =>
            rw [hp] at MC
            have HR : Hid (lastG (y.abs.ls.take j) behind upTo p (if behind < min upTo y.floor then min upTo y.floor else 0) = y.abs.newest behind upTo p) := by show _ = _; rw [← hS, hsn]; exact (if_neg (by rw [hp]; simp)).symm
            clear hsn hst hS HEND hp hM
            go_wp2_with fail
            refine MC.mono ?_
            clear MC
            rintro e w2 ⟨rfl, b2⟩
            go_wp2
            go_roundw
            case rel => exact ⟨j, by omega, rfl, HR.out, bel.trans (b2.mono bel.size)⟩
            case measure => first | (simp [intOf]; done) | (simp [intOf]; omega)
        · have d2 : decide (x.no ≤ upTo) = false := decide_eq_false hu
          have HR : Hid (lastG (y.abs.ls.take j) behind upTo p (if behind < min upTo y.floor then min upTo y.floor else 0) = y.abs.newest behind upTo p) := by show _ = _; rw [← hS, hsn]; exact (if_neg (by rw [hxno]; omega)).symm
          clear hsn hst hS HEND MC hM
          go_wp2
          go_roundw
          case rel => exact ⟨j, by omega, rfl, HR.out, bel⟩
          case measure => first | (simp [intOf]; done) | (simp [intOf]; omega)
      · have d1 : decide (behind < x.no) = false := decide_eq_false hn
        have HF := Lib.hid (HEND.out (hst (by rw [hxno]; exact hn)))
        clear hsn hst hS HEND MC hM
        by_cases hu : upTo ≤ y.floor
        · rw [show min upTo y.floor = upTo by omega] at HF
          by_cases hb : behind < upTo
          · have db : decide (behind < upTo) = true := decide_eq_true hb
            rw [if_pos hb] at HF
            go_wp2
            go_ret
            exact HF.out _ (Below.refl _ _)
          · have db : decide (behind < upTo) = false := decide_eq_false hb
            rw [if_neg hb] at HF
            go_wp2
            go_ret
            exact HF.out _ (Below.refl _ _)
        · rw [show min upTo y.floor = y.floor by omega] at HF
          by_cases hb : behind < y.floor
          · have db : decide (behind < y.floor) = true := decide_eq_true hb
            rw [if_pos hb] at HF
            go_wp2
            go_ret
            exact HF.out _ (Below.refl _ _)
          · have db : decide (behind < y.floor) = false := decide_eq_false hb
            rw [if_neg hb] at HF
            go_wp2
            go_ret
            exact HF.out _ (Below.refl _ _)
set_option maxHeartbeats 3200000 in
set_option maxRecDepth 100000 in
theorem newest_neg (y : LogR) (behind upTo : Int) (hbe : ¬ 0 ≤ behind) (g : Nat) (lb : Array Value) (p : Ln → Bool) (eg : ∀ args w, (callFunc g args).run Tryd.prog w = .ok (.enter g args) w) (w : World) (base : Nat) (X : Nat → Prop) (h : LogOK w base X y) (hM : MeansAt g lb p y.ls w) :
    Calls Tryd.prog 40 #[.pointer (some ⟨y.D, 0, none⟩), .int .i64 behind, .int .i64 upTo, .func (.func g) #[] lb] w (RetNum (y.abs.newest behind upTo p) w) := by
  have hmx := newest_max h.ok behind upTo p
  rw [show max behind 0 = 0 by omega] at hmx
  have hnl := h.len_le
  have HRES : Hid (y.abs.newest behind upTo p = lastG y.abs.ls 0 upTo p (if 0 < min upTo y.floor then min upTo y.floor else 0)) := hmx
  clear hmx
  have hle : y.abs.ls.length = y.ls.length := LogOK.abs_len
  obtain ⟨AV, cV, hv, _, _⟩ := own_form h.rk
  have dk := h.dk
  rw [hv] at dk
  have c0 : w.cell? ⟨y.D, 0, none⟩ = some (.int .i64 y.floor) := dk.at_ rfl
  have c1 : w.cell? ⟨y.D, 1, none⟩ = some (.slice AV y.ls.length cV) := dk.at_ rfl
  have HV := Lib.hid hv
  have HLE := Lib.hid hle
  have HS0 : Hid (lastG (y.abs.ls.take y.ls.length) 0 upTo p (if 0 < min upTo y.floor then min upTo y.floor else 0) = y.abs.newest behind upTo p) := by show _ = _; rw [HRES.out, ← hle, List.take_length]
  clear hv hle
  go_enter Tryd.func40, Tryd.ntmps40
  go_wp2
  clear c0 c1
  go_loopw [9] (fun i wr => ∃ k : Nat, k ≤ y.ls.length ∧ i = .int .i64 ((k : Int) - 1) ∧ lastG (y.abs.ls.take k) 0 upTo p (if 0 < min upTo y.floor then min upTo y.floor else 0) = y.abs.newest behind upTo p ∧ Below w.heap.size w wr) (fun i _ => (intOf i + 1).toNat)
  case atStart => exact ⟨y.ls.length, Nat.le_refl _, rfl, HS0.out, Below.refl _ _⟩
  case round =>
    obtain ⟨k, hk, rfl, hS, bel⟩ := hrel
    have hr := h.below bel
    have dkr := hr.dk
    rw [HV.out] at dkr
    have c0 : wr.cell? ⟨y.D, 0, none⟩ = some (.int .i64 y.floor) := dkr.at_ rfl
    have c1 : wr.cell? ⟨y.D, 1, none⟩ = some (.slice AV y.ls.length cV) := dkr.at_ rfl
    have HEND : Hid (lastG (y.abs.ls.take k) 0 upTo p (if 0 < min upTo y.floor then min upTo y.floor else 0) = (if 0 < min upTo y.floor then min upTo y.floor else 0) → ∀ w', Below wr.heap.size wr w' → RetNum (y.abs.newest behind upTo p) w (.returned (.int .i64 (if 0 < min upTo y.floor then min upTo y.floor else 0))) w') := fun e w' hb => ⟨by rw [← e, hS], bel.trans (hb.mono bel.size)⟩
    cases k with
    | zero =>
      have HF := Lib.hid (HEND.out (by rw [List.take_zero]; rfl))
      rw [show (((0 : Nat) : Int) - 1) = -1 by omega]
      clear HEND hS HS0 hM dkr
      by_cases hu : upTo ≤ y.floor
      · rw [show min upTo y.floor = upTo by omega] at HF
        by_cases hb : 0 < upTo
        · have db : decide (0 < upTo) = true := decide_eq_true hb
          rw [if_pos hb] at HF
          go_wp2
          go_ret
          exact HF.out _ (Below.refl _ _)
        · have db : decide (0 < upTo) = false := decide_eq_false hb
          rw [if_neg hb] at HF
          go_wp2
          go_ret
          exact HF.out _ (Below.refl _ _)
      · rw [show min upTo y.floor = y.floor by omega] at HF
        by_cases hb : 0 < y.floor
        · have db : decide (0 < y.floor) = true := decide_eq_true hb
          rw [if_pos hb] at HF
          go_wp2
          go_ret
          exact HF.out _ (Below.refl _ _)
        · have db : decide (0 < y.floor) = false := decide_eq_false hb
          rw [if_neg hb] at HF
          go_wp2
          go_ret
          exact HF.out _ (Below.refl _ _)
    | succ j =>
      rw [show (((j + 1 : Nat) : Int) - 1) = (j : Int) by omega]
      have hj : j < y.ls.length := by omega
      obtain ⟨x, hx⟩ : ∃ x, y.ls[j]? = some x := ⟨_, List.getElem?_eq_getElem hj⟩
      have hxa : y.abs.ls[j]? = some x.abs := by unfold LogR.abs; rw [List.getElem?_map, hx]; rfl
      have hxm : x ∈ y.ls := List.mem_of_getElem? hx
      have rkr := hr.rk
      obtain ⟨gg, cg, hvg, _, hgl⟩ := row_blk rkr hj
      have hAV : AV = some ⟨gg, 0, none⟩ := by have := HV.out.symm.trans hvg; injection this
      subst hAV
      rw [HV.out] at rkr
      obtain ⟨x0, x1, x2⟩ := line_at rkr hx
      have hsn := scan_snoc hxa 0 upTo (if 0 < min upTo y.floor then min upTo y.floor else 0) p
      have hst := fun hb => scan_stop h.ok hxa (b := 0) (upTo := upTo) (n := if 0 < min upTo y.floor then min upTo y.floor else 0) (p := p) hb
      have hxno : x.abs.no = x.no := rfl
      have MC := hM wr x hxm bel
      have hjl : ((j : Int) < (y.ls.length : Int)) := by omega
      clear hvg rkr hx hxa hxm HS0
      by_cases hn : 0 < x.no
      · have d1 : decide (0 < x.no) = true := decide_eq_true hn
        by_cases hu : x.no ≤ upTo
        · have d2 : decide (x.no ≤ upTo) = true := decide_eq_true hu
          cases hp : p x.abs with
          | true =>
            rw [hp] at MC
            have HF : Hid (∀ w', Below wr.heap.size wr w' → RetNum (y.abs.newest behind upTo p) w (.returned (.int .i64 x.no)) w') := fun w' hb => ⟨by rw [← hS, hsn]; rw [if_pos ⟨hn, hu, hp⟩]; rfl, bel.trans (hb.mono bel.size)⟩
            clear hsn hst hS HEND hp hM
            go_wp2_with fail
            refine MC.mono ?_
            clear MC
            rintro e w2 ⟨rfl, b2⟩
            have h2 := hr.below b2
            have dk2 := dkr.below b2 dkr.lt
            have e1 : w2.cell? ⟨y.D, 1, none⟩ = some (.slice (some ⟨gg, 0, none⟩) y.ls.length cV) := dk2.at_ rfl
            have e0 : w2.cell? ⟨gg, j * 3, none⟩ = some (.int .i64 x.no) := (b2.cell (p := ⟨gg, j * 3, none⟩) hgl).trans x0
            go_wp2
            go_ret
            exact HF.out _ b2
          | false =>
            rw [hp] at MC
            have HR : Hid (lastG (y.abs.ls.take j) 0 upTo p (if 0 < min upTo y.floor then min upTo y.floor else 0) = y.abs.newest behind upTo p) := by show _ = _; rw [← hS, hsn]; exact (if_neg (by rw [hp]; simp)).symm
            clear hsn hst hS HEND hp hM
            go_wp2_with fail
            refine MC.mono ?_
            clear MC
            rintro e w2 ⟨rfl, b2⟩
            go_wp2
            go_roundw
            case rel => exact ⟨j, by omega, rfl, HR.out, bel.trans (b2.mono bel.size)⟩
            case measure => first | (simp [intOf]; done) | (simp [intOf]; omega)
        · have d2 : decide (x.no ≤ upTo) = false := decide_eq_false hu
          have HR : Hid (lastG (y.abs.ls.take j) 0 upTo p (if 0 < min upTo y.floor then min upTo y.floor else 0) = y.abs.newest behind upTo p) := by show _ = _; rw [← hS, hsn]; exact (if_neg (by rw [hxno]; omega)).symm
          clear hsn hst hS HEND MC hM
          go_wp2
          go_roundw
          case rel => exact ⟨j, by omega, rfl, HR.out, bel⟩
          case measure => first | (simp [intOf]; done) | (simp [intOf]; omega)
      · have d1 : decide (0 < x.no) = false := decide_eq_false hn
        have HF := Lib.hid (HEND.out (hst (by rw [hxno]; exact hn)))
        clear hsn hst hS HEND MC hM
        by_cases hu : upTo ≤ y.floor
        · rw [show min upTo y.floor = upTo by omega] at HF
          by_cases hb : 0 < upTo
          · have db : decide (0 < upTo) = true := decide_eq_true hb
            rw [if_pos hb] at HF
            go_wp2
            go_ret
            exact HF.out _ (Below.refl _ _)
          · have db : decide (0 < upTo) = false := decide_eq_false hb
            rw [if_neg hb] at HF
            go_wp2
            go_ret
            exact HF.out _ (Below.refl _ _)
        · rw [show min upTo y.floor = y.floor by omega] at HF
          by_cases hb : 0 < y.floor
          · have db : decide (0 < y.floor) = true := decide_eq_true hb
            rw [if_pos hb] at HF
            go_wp2
            go_ret
            exact HF.out _ (Below.refl _ _)
          · have db : decide (0 < y.floor) = false := decide_eq_false hb
            rw [if_neg hb] at HF
            go_wp2
            go_ret
            exact HF.out _ (Below.refl _ _)
theorem newest_calls (y : LogR) (behind upTo : Int) (g : Nat) (lb : Array Value) (p : Ln → Bool) (eg : ∀ args w, (callFunc g args).run Tryd.prog w = .ok (.enter g args) w) (w : World) (base : Nat) (X : Nat → Prop) (h : LogOK w base X y) (hM : MeansAt g lb p y.ls w) :
    Calls Tryd.prog 40 #[.pointer (some ⟨y.D, 0, none⟩), .int .i64 behind, .int .i64 upTo, .func (.func g) #[] lb] w (RetNum (y.abs.newest behind upTo p) w) := by
  by_cases hb : 0 ≤ behind
  · exact newest_pos y behind upTo hb g lb p eg w base X h hM
  · exact newest_neg y behind upTo hb g lb p eg w base X h hM
end Go.Proofs.YtdcjljlppeighaaDoor
