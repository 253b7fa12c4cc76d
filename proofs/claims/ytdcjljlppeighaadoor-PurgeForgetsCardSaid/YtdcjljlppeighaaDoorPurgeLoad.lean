/-
  The walk of Load: a log of lines.
-/
import Derived.Test.YtdcjljlppeighaaDoorPurgeLines
namespace Go.Proofs.YtdcjljlppeighaaDoor
open Go.RowKit PurgeP

def zeroL : Ln := ⟨0, [], false⟩
/-- Are the first k lines right ones, numbered one by one behind a floor? -/
def goodL (floor : Int) (ls : List Ln) (k : Nat) : Bool := (List.range k).all fun i => rightB (ls.getD i zeroL) && decide ((ls.getD i zeroL).no = floor + (i : Int) + 1)
theorem goodL_succ (floor : Int) (ls : List Ln) (k : Nat) : goodL floor ls (k + 1) = (goodL floor ls k && (rightB (ls.getD k zeroL) && decide ((ls.getD k zeroL).no = floor + (k : Int) + 1))) := by
  unfold goodL
  rw [List.range_succ, List.all_append]
  simp
theorem goodL_not (floor : Int) (ls : List Ln) (k n : Nat) (h : goodL floor ls k = false) (hn : k ≤ n) : goodL floor ls n = false := by
  induction n with
  | zero => obtain rfl : k = 0 := by omega
            exact h
  | succ n ih =>
    by_cases e : k = n + 1
    · subst e; exact h
    · rw [goodL_succ, ih (by omega)]; rfl
def loadE (floor : Int) (ls : List Ln) : Int := if floor < 0 ∨ 1099511627776 < floor then 1 else if goodL floor ls ls.length then 0 else 2
/-- Lines that came in. -/
structure LnsIn (w : World) (A : Option Addr) (ls : List LnR) : Prop where
  rv : RV w A (lC ls)
  ks : ∀ x ∈ ls, LnOK w (fun _ => False) x
theorem LnsIn.below {w w' : World} {A : Option Addr} {ls : List LnR} (h : LnsIn w A ls) (b : Below w.heap.size w w') : LnsIn w' A ls := ⟨RV.below h.rv b, fun x hx => (h.ks x hx).kept (Kept.of_below b _) fun _ => id⟩
theorem LnsIn.at_ {w : World} {A : Option Addr} {ls : List LnR} (h : LnsIn w A ls) {k : Nat} {x : LnR} (hk : ls[k]? = some x) :
    ∃ b off, A = some ⟨b, off, none⟩ ∧ b < w.heap.size ∧ w.cell? ⟨b, off + k * 3, none⟩ = some (.int .i64 x.no) ∧ w.cell? ⟨b, off + k * 3 + 1, none⟩ = some (.slice x.A x.keys.length x.cap) ∧ w.cell? ⟨b, off + k * 3 + 2, none⟩ = some (.bool x.hard) := by
  have a0 := lC_get ls k 0 (by omega)
  have a1 := lC_get ls k 1 (by omega)
  have a2 := lC_get ls k 2 (by omega)
  rw [hk] at a0 a1 a2
  obtain ⟨b, off, e, hb, hc⟩ := h.rv (by intro e; rw [e] at a0; simp [LnR.cells] at a0)
  exact ⟨b, off, e, hb, hc _ _ a0, hc _ _ a1, hc _ _ a2⟩
/-- What Load gives back. -/
def RetLoad (w : World) (floor : Int) (ls : List Ln) (e : Ending) (w' : World) : Prop :=
  Below w.heap.size w w' ∧ ((loadE floor ls ≠ 0 ∧ e = .returned (.tuple #[.pointer none, .int .i64 (loadE floor ls)])) ∨
    (loadE floor ls = 0 ∧ ∃ y, e = .returned (.tuple #[.pointer (some ⟨y.D, 0, none⟩), .int .i64 0]) ∧ LogOK w' w.heap.size (fun _ => False) y ∧ y.abs = ⟨floor, ls⟩))
/-- A log in the making. -/
def Loading (w : World) (floor : Int) (ls : List LnR) (k : Nat) (wr : World) : Prop :=
  ∃ y, LogOK wr w.heap.size (fun _ => False) y ∧ y.D = w.heap.size ∧ y.abs = ⟨floor, (ls.take k).map LnR.abs⟩ ∧ Below w.heap.size w wr
theorem abs_getD (ls : List LnR) (k : Nat) (x : LnR) (h : ls[k]? = some x) : (ls.map LnR.abs).getD k zeroL = x.abs := by
  rw [List.getD_eq_getElem?_getD, List.getElem?_map, h]; rfl
set_option maxHeartbeats 3200000 in
set_option maxRecDepth 100000 in
theorem load_calls (ls : List LnR) (floor : Int) (A : Option Addr) (cap : Nat) (w : World) (hI : LnsIn w A ls) (hl : ls.length ≤ 1000000) :
    Calls Tryd.prog 34 #[.slice A ls.length cap, .int .i64 floor] w (RetLoad w floor (ls.map LnR.abs)) := by
  by_cases hf : floor < 0 ∨ 1099511627776 < floor
  · have HE : Hid (RetLoad w floor (ls.map LnR.abs) (.returned (.tuple #[.pointer none, .int .i64 1])) w) := by
      have e : loadE floor (ls.map LnR.abs) = 1 := if_pos hf
      exact ⟨Below.refl _ _, .inl ⟨by rw [e]; decide, by rw [e]⟩⟩
    have dd : decide (floor < 0) = true ∨ (decide (floor < 0) = false ∧ decide (1099511627776 < floor) = true) := by
      by_cases h : floor < 0
      · exact .inl (decide_eq_true h)
      · exact .inr ⟨decide_eq_false h, decide_eq_true (by omega)⟩
    clear hI hf
    rcases dd with d | ⟨d, d2⟩
    all_goals
      go_enter Tryd.func34, Tryd.ntmps34
      go_wp2
      go_ret2
      exact HE.out
  · have hf0 : 0 ≤ floor := by omega
    have hf1 : floor ≤ 1099511627776 := by omega
    have d1 : decide (floor < 0) = false := decide_eq_false (by omega)
    have d2 : decide (1099511627776 < floor) = false := decide_eq_false (by omega)
    have HLE : Hid (loadE floor (ls.map LnR.abs) = if goodL floor (ls.map LnR.abs) ls.length then 0 else 2) := by show _ = _; unfold loadE; rw [if_neg hf, List.length_map]
    have B1 : Below w.heap.size w (w.alloc (.cells #[.int .i64 floor, .slice none 0 0] 72)) := (Below.refl _ _).alloc (Nat.le_refl _) _
    have L0 : Loading w floor ls 0 (w.alloc (.cells #[.int .i64 floor, .slice none 0 0] 72)) :=
      ⟨⟨w.heap.size, .slice none 0 0, floor, []⟩, ⟨Blk.new w _ _, World.ownsRow_nil _ _ _ _, fun x hx => by simp at hx, Nat.le_refl _, by simp [Value.ownBlock], fun h => h, fun _ _ h => h, ⟨hf0, hf1, fun i x hx => by simp [LogR.abs] at hx, fun x hx => by simp [LogR.abs] at hx⟩⟩, rfl, by simp [LogR.abs], B1⟩
    clear hf
    go_enter Tryd.func34, Tryd.ntmps34
    go_wp2
    go_loopw [20] (fun i wr => ∃ k : Nat, k ≤ ls.length ∧ i = .int .i64 (k : Int) ∧ goodL floor (ls.map LnR.abs) k = true ∧ Loading w floor ls k wr) (fun i _ => ls.length - (intOf i).toNat)
    case atStart => exact ⟨0, by omega, rfl, rfl, L0⟩
    case round =>
      obtain ⟨k, hk, rfl, hg, hL⟩ := hrel
      by_cases hlt : k < ls.length
      · have dec : decide ((k : Int) < (ls.length : Int)) = true := decide_eq_true (by omega)
        have hli : (k : Int) < (ls.length : Int) := by omega
        obtain ⟨y, hy, hyD, hya, bel⟩ := hL
        obtain ⟨x, hx⟩ : ∃ x, ls[k]? = some x := ⟨_, List.getElem?_eq_getElem hlt⟩
        have hxm : x ∈ ls := List.mem_of_getElem? hx
        have hxo := hI.ks x hxm
        have hIr := hI.below bel
        obtain ⟨b, off, rfl, hb, x0, x1, x2⟩ := hIr.at_ hx
        have hgs := goodL_succ floor (ls.map LnR.abs) k
        rw [abs_getD ls k x hx] at hgs
        have HBAD : Hid ((rightB x.abs = false ∨ x.no ≠ floor + (k : Int) + 1) → ∀ w', Below wr.heap.size wr w' → RetLoad w floor (ls.map LnR.abs) (.returned (.tuple #[.pointer none, .int .i64 2])) w') := fun hbad w' hb' => by
          have e : goodL floor (ls.map LnR.abs) (k + 1) = false := by
            rw [hgs]
            rcases hbad with h1 | h1
            · rw [h1]; simp
            · rw [show decide (x.abs.no = floor + (k : Int) + 1) = false from decide_eq_false h1]; simp
          have e2 : loadE floor (ls.map LnR.abs) = 2 := by rw [HLE.out, goodL_not _ _ _ _ e hlt]; rfl
          exact ⟨bel.trans (hb'.mono bel.size), .inl ⟨by rw [e2]; decide, by rw [e2]⟩⟩
        have HG : Hid (rightB x.abs = true → x.no = floor + (k : Int) + 1 → goodL floor (ls.map LnR.abs) (k + 1) = true) := fun h1 h2 => by
          rw [hgs, hg, h1, show decide (x.abs.no = floor + (k : Int) + 1) = true from decide_eq_true h2]; rfl
        have hCS : Hid (∀ A c, y.abs.ls ++ [LnR.abs ⟨x.no, A, c, x.keys, x.hard⟩] = (ls.take (k + 1)).map LnR.abs) := fun A c => by
          obtain ⟨h1, h2⟩ := List.getElem?_eq_some_iff.1 hx
          rw [hya, List.take_succ_eq_append_getElem h1, List.map_append, ← h2]; rfl
        have hnow : y.abs.now = floor + (k : Int) := by rw [hya]; unfold PLog.now; simp; omega
        have hyfl : y.floor = floor := by have := congrArg PLog.floor hya; exact this
        have HNW := Lib.hid hnow
        have HFL := Lib.hid hyfl
        have HD := Lib.hid hyD
        clear hgs hg hx hxm hya hnow hyfl hIr
        obtain ⟨xno, xA, xc, xk, xh⟩ := x
        have xcap : xk.length ≤ xc := hxo.cap
        have xc63 : xc ≤ 9223372036854775807 := hxo.c63
        have xrs : RS wr xA xk := RS.below (hxo.rs) bel
        simp only at x0 x1 x2
        clear hxo
        go_wp2_with ((with_reducible show wpList _ _ _ (⟨some 25, _, _, _, _, _⟩ :: _) _ _); refine wpList_abs (fun w8 => Blk w8 wr.heap.size 54 #[.int .i64 xno, .slice xA xk.length xc, .bool xh] ∧ Below wr.heap.size wr w8) (⟨Blk.new wr _ _, (Below.refl _ _).alloc (Nat.le_refl _) _⟩) ?_)
        intro w8 xb b8
        clear x0 x1 x2
        have x0 : w8.cell? ⟨wr.heap.size, 0, none⟩ = some (.int .i64 xno) := xb.at_ rfl
        have x1 : w8.cell? ⟨wr.heap.size, 1, none⟩ = some (.slice xA xk.length xc) := xb.at_ rfl
        have x2 : w8.cell? ⟨wr.heap.size, 2, none⟩ = some (.bool xh) := xb.at_ rfl
        have RC := right_calls xno xk xh xA xc w8 (xrs.below b8) xcap xc63
        go_wp2_with fail
        refine RC.mono ?_
        clear RC
        rintro e w9 ⟨rfl, b9⟩
        have b89 := b8.trans (b9.mono b8.size)
        cases hrt : rightB ⟨xno, xk, xh⟩ with
        | false =>
          have HF := Lib.hid (HBAD.out (.inl hrt) w9 b89)
          clear hrt HG HBAD
          go_wp2
          go_ret2
          exact HF.out
        | true =>
          have xb9 := xb.below b9 xb.lt
          have y0 : w9.cell? ⟨wr.heap.size, 0, none⟩ = some (.int .i64 xno) := xb9.at_ rfl
          have y1 : w9.cell? ⟨wr.heap.size, 1, none⟩ = some (.slice xA xk.length xc) := xb9.at_ rfl
          have y2 : w9.cell? ⟨wr.heap.size, 2, none⟩ = some (.bool xh) := xb9.at_ rfl
          by_cases hno : xno = floor + (k : Int) + 1
          · have dn : (xno != floor + (k : Int) + 1) = false := by simpa using hno
            have HGG := Lib.hid (HG.out hrt hno)
            have HRT := Lib.hid hrt
            have HNO := Lib.hid hno
            clear hrt hno HG HBAD
            obtain ⟨AV, cV, hv, _, _⟩ := own_form hy.rk
            have hy9 := hy.below b89
            have dk := hy9.dk
            have rk2 := hy9.rk
            rw [hv] at dk rk2
            rw [HD.out, HFL.out] at dk
            have hylen := hy.len_le
            have hDv : (Value.slice AV y.ls.length cV).ownBlock ≠ some w.heap.size := by rw [← hv, ← HD.out]; exact hy.nD
            have hvx : ∀ k, (Value.slice AV y.ls.length cV).ownBlock = some k → k < wr.heap.size := fun k hk => by rw [← hv] at hk; exact (hy.rk.lt k hk).2
            have hDr : w.heap.size < wr.heap.size := by have := hy.dk.lt; rw [HD.out] at this; exact this
            have hxl : wr.heap.size < w9.heap.size := xb9.lt
            have hs9 := b89.size
            have hDl := dk.lt
            have d1 : w9.cell? ⟨w.heap.size, 1, none⟩ = some (.slice AV y.ls.length cV) := dk.at_ rfl
            have bD2 : ∀ {w3 : World}, Below w9.heap.size w9 w3 → Blk w3 w.heap.size 72 #[.int .i64 floor, .slice AV y.ls.length cV] := fun b => dk.below b dk.lt
            have HP : Hid (∀ (w3 w4 : World) (A3 : Option Addr) (c3 : Nat) (v : Value), Below w9.heap.size w9 w3 → w9.heap.size ≤ w3.heap.size → w3.ownsRow w9.heap.size 9 1 (.slice A3 xk.length c3) xk.length (cS xk) →
                w4.ownsRow w.heap.size 54 3 v (y.ls.length + 1) (lC y.ls ++ LnR.cells ⟨xno, A3, c3, xk, xh⟩) → w3.grownBy w4 (Value.slice AV y.ls.length cV).ownBlock → (v.ownBlock = (Value.slice AV y.ls.length cV).ownBlock ∨ v.ownBlock = some w3.heap.size) →
                Loading w floor ls (k + 1) (w4.setCell ⟨w.heap.size, 1, none⟩ v)) := by
              intro w3 w4 A3 c3 v hb3 hs3 ho3 ho4 hg4 hv4
              rw [← hv] at hg4 hv4
              obtain ⟨y', p1, p2, p3, p4, p5⟩ := LogOK.push hy (by omega) (fun k hk => hk.elim) (x := ⟨xno, A3, c3, xk, xh⟩) (b89.trans (hb3.mono b89.size)) (N := w9.heap.size) b89.size hs3 ho3 ho4 hg4 hv4 HRT.out (by rw [HNW.out]; exact HNO.out)
              rw [HD.out] at p1 p4
              exact ⟨y', p1, by rw [p3, HD.out], by rw [p2, HFL.out, hCS.out], bel.trans (p4.below (fun j _ hj => (hy.foot_lt hj).1) bel.size)⟩
            have CC := fun w' (hb : Below w9.heap.size w9 w') => copied_calls xno xk xh xA xc w' ((xrs.below b89).below hb) (by have := ((right_iff _).1 HRT.out).1.2.2.2; simp only at this; omega)
            have bd2 : Below w9.heap.size w9 w9.drew := (Below.refl _ _).drew
            clear hy hy9 hv x0 x1 x2 hCS HNW HNO HRT xrs
            go_wp2_with fail
            go_region_law (first
              | (go_simp; go_at_call 39; refine (CC _ bd2).mono ?_; rintro e w3 ⟨A3, c3, rfl, o3z, b3z⟩; have o3 : w3.ownsRow w9.heap.size 9 1 (.slice A3 xk.length c3) xk.length (cS xk) := o3z; have b3 : Below w9.heap.size w9 w3 := ⟨b3z.os, b3z.tape, b3z.output, b3z.size, b3z.block⟩; clear o3z b3z; have hs3 := b3.size; have own3 := own_below rk2 b3 (fun k hk => (rk2.lt k hk).2); have e1 : w3.cell? ⟨w.heap.size, 1, none⟩ = some (.slice AV y.ls.length cV) := (bD2 b3).at_ rfl; have e1a : ∀ o, (w3.alloc o).cell? ⟨w.heap.size, 1, none⟩ = some (.slice AV y.ls.length cV) := fun o => ((bD2 b3).alloc o).at_ rfl)
              | (refine step_append_rv (A := some ⟨w3.heap.size, 0, none⟩) (m := 1) (c := 1) (v := .slice AV y.ls.length cV) (base := w.heap.size) el_line rfl (.tmp 41) (.tmp 44) rfl rfl (own3.alloc _) rfl rfl (RV.new w3 [.int .i64 xno, .slice A3 xk.length c3, .bool xh] 54 (0, 0)) (lC_one [⟨xno, A3, c3, xk, xh⟩]) (by unfold maxLen; omega) (by omega) (by simp; omega) ?_; intro v4 w4 own4 gr4 hv4; (obtain ⟨A4, c4, hv4f, _, _⟩ := own_form own4); subst hv4f; have HF := Lib.hid (HP.out _ w4 A3 c3 (.slice A4 (y.ls.length + 1) c4) (b3.alloc b3.size _) (by simp; omega) (o3.alloc _) own4 gr4 (by simpa using hv4)); have d4 : Blk w4 w.heap.size 72 #[.int .i64 floor, .slice AV y.ls.length cV] := (gr4.block w.heap.size (by simp; omega) (fun e => hDv e.symm)).trans ((bD2 b3).alloc _); have s1 : w4.cell? ⟨w.heap.size, 1, none⟩ = some (.slice AV y.ls.length cV) := d4.at_ rfl; have sf := d4.frozen 1; clear d4 own4 gr4 hv4 o3 b3 own3))
            all_goals
              clear HP
              go_wp2
              go_roundw
              case rel => exact ⟨k + 1, by omega, by go_num, HGG.out, HF.out⟩
              case measure => simp [intOf]; omega
          · have dn : (xno != floor + (k : Int) + 1) = true := by simpa using hno
            have HF := Lib.hid (HBAD.out (.inr hno) w9 b89)
            clear hrt HG HBAD hno
            go_wp2
            go_ret2
            exact HF.out
      · obtain rfl : k = ls.length := by omega
        obtain ⟨y, hy, hyD, hya, bel⟩ := hL
        have HF : Hid (RetLoad w floor (ls.map LnR.abs) (.returned (.tuple #[.pointer (some ⟨w.heap.size, 0, none⟩), .int .i64 0])) wr) := by
          have e : loadE floor (ls.map LnR.abs) = 0 := by rw [HLE.out, hg]; rfl
          exact ⟨bel, .inr ⟨e, y, by rw [hyD], hy, by rw [hya, List.take_length]⟩⟩
        clear hg hya hyD hy
        go_wp2
        go_ret2
        exact HF.out
end Go.Proofs.YtdcjljlppeighaaDoor
