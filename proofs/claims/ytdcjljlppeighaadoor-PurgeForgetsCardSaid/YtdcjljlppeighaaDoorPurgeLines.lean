/-
  The walk of a log's Lines.
-/
import Derived.Test.YtdcjljlppeighaaDoorPurgeForget
namespace Go.Proofs.YtdcjljlppeighaaDoor
open Go.RowKit PurgeP

/-- A row of lines of the call's own, apart from the blocks F. -/
structure RowOK (w : World) (base : Nat) (F : Nat → Prop) (v : Value) (rs : List LnR) : Prop where
  own : w.ownsRow base 54 3 v rs.length (lC rs)
  ks : ∀ x ∈ rs, LnOK w (fun k => v.ownBlock = some k ∨ F k) x
theorem RowOK.nil (w : World) (base : Nat) (F : Nat → Prop) : RowOK w base F (.slice none 0 0) [] := ⟨World.ownsRow_nil _ _ _ _, fun x hx => by simp at hx⟩
theorem RowOK.below {w w' : World} {base : Nat} {F : Nat → Prop} {v : Value} {rs : List LnR} (h : RowOK w base F v rs) (b : Below w.heap.size w w') : RowOK w' base F v rs :=
  ⟨own_below h.own b fun k hk => (h.own.lt k hk).2, fun x hx => (h.ks x hx).kept (Kept.of_below b _) fun _ => id⟩
/-- A line put behind. -/
theorem RowOK.push {w1 w3 w4 : World} {base : Nat} {F : Nat → Prop} {v v4 : Value} {rs : List LnR} {x : LnR} {N : Nat} (h : RowOK w1 base F v rs) (hF : ∀ k, F k → k < w1.heap.size) (b3 : Below w1.heap.size w1 w3) (hN : w1.heap.size ≤ N)
    (o3 : w3.ownsRow N 9 1 (.slice x.A x.keys.length x.cap) x.keys.length (cS x.keys)) (own4 : w4.ownsRow base 54 3 v4 (rs.length + 1) (lC rs ++ x.cells)) (gr : w3.grownBy w4 v.ownBlock) (hv : v4.ownBlock = v.ownBlock ∨ v4.ownBlock = some w3.heap.size) : RowOK w4 base F v4 (rs ++ [x]) := by
  have K : Kept (fun k => v.ownBlock = some k) w1 w4 := (Kept.of_below b3 _).trans ((Kept.refl _ w3).grown gr (fun k hk => .inl hk))
  have K3 : Kept (fun k => v.ownBlock = some k) w3 w4 := (Kept.refl _ w3).grown gr (fun k hk => .inl hk)
  have hsz := b3.size
  refine ⟨by simp only [List.length_append, List.length_singleton, lC_append]; rw [show lC [x] = x.cells by simp [lC]]; exact own4, fun z hz => ?_⟩
  simp only [List.mem_append, List.mem_singleton] at hz
  rcases hz with hz | rfl
  · exact ⟨(h.ks z hz).rd.next (K.mono fun _ _ hf => .inl hf) (fun k hk hf => by
      rcases hf with hf | hf
      · rcases hv with e | e
        · rw [e] at hf; exact .inl hf
        · rw [e] at hf; injection hf with hf; omega
      · exact .inr hf), (h.ks z hz).cap, (h.ks z hz).c63⟩
  · obtain ⟨_, _, hz0, hz1, hz2⟩ := own_form o3
    injection hz0 with _ _ hz3
    subst hz3
    unfold maxLen at hz2
    refine ⟨(own_rvf (F := fun k => (v.ownBlock = some k ∨ F k) ∨ w3.heap.size ≤ k) o3 (fun k hk => ?_)).next (K3.mono fun _ _ hf => .inl (.inl hf)) (fun k hk hf => ?_), hz1, by omega⟩
    · rcases hk with (hk | hk) | hk
      · have := (h.own.lt k hk).2; exact .inl (by omega)
      · have := hF k hk; exact .inl (by omega)
      · exact .inr hk
    · rcases hf with hf | hf
      · rcases hv with e | e
        · rw [e] at hf; exact .inl (.inl hf)
        · rw [e] at hf; injection hf with hf; exact .inr (by omega)
      · exact .inl (.inr hf)
/-- The first k lines, copied. -/
def Copied (w : World) (ls : List LnR) (k : Nat) (v : Value) (wr : World) : Prop :=
  ∃ rs, rs.length = k ∧ rs.map LnR.abs = (ls.take k).map LnR.abs ∧ RowOK wr w.heap.size (fun _ => False) v rs ∧ Below w.heap.size w wr
def RetLines (w : World) (ls : List LnR) (e : Ending) (w' : World) : Prop := ∃ v, e = .returned v ∧ Copied w ls ls.length v w'
theorem copied_step {ls rs : List LnR} {k : Nat} {x : LnR} {A : Option Addr} {c : Nat} (hx : ls[k]? = some x) (h : rs.map LnR.abs = (ls.take k).map LnR.abs) : (rs ++ [(⟨x.no, A, c, x.keys, x.hard⟩ : LnR)]).map LnR.abs = (ls.take (k + 1)).map LnR.abs := by
  obtain ⟨hlt, rfl⟩ := List.getElem?_eq_some_iff.1 hx
  rw [List.take_succ_eq_append_getElem hlt, List.map_append, List.map_append, h]
  rfl
set_option maxHeartbeats 1600000 in
theorem lines_calls (y : LogR) (w : World) (base : Nat) (X : Nat → Prop) (h : LogOK w base X y) :
    Calls Tryd.prog 19 #[.pointer (some ⟨y.D, 0, none⟩)] w (RetLines w y.ls) := by
  have hnl := h.len_le
  obtain ⟨AV, cV, hv, _, _⟩ := own_form h.rk
  have dk := h.dk
  rw [hv] at dk
  have c1 : w.cell? ⟨y.D, 1, none⟩ = some (.slice AV y.ls.length cV) := dk.at_ rfl
  have HV := Lib.hid hv
  clear hv dk
  go_enter Tryd.func19, Tryd.ntmps19
  go_wp2
  clear c1
  go_loopw [3, 11] (fun v i wr => ∃ k : Nat, k ≤ y.ls.length ∧ i = .int .i64 (k : Int) ∧ Copied w y.ls k v wr) (fun _ i _ => y.ls.length - (intOf i).toNat)
  case atStart => exact ⟨0, by omega, rfl, [], rfl, rfl, RowOK.nil _ _ _, Below.refl _ _⟩
  case round =>
    obtain ⟨k, hk, rfl, rs, rfl, hra, hrow, bel⟩ := hrel
    obtain ⟨AR, cR, rfl, _, _⟩ := own_form hrow.own
    by_cases hlt : rs.length < y.ls.length
    · have dec : decide ((rs.length : Int) < (y.ls.length : Int)) = true := decide_eq_true (by omega)
      have hr := h.below bel
      obtain ⟨x, hx⟩ : ∃ x, y.ls[rs.length]? = some x := ⟨_, List.getElem?_eq_getElem hlt⟩
      have hxm : x ∈ y.ls := List.mem_of_getElem? hx
      have rkr := hr.rk
      obtain ⟨gg, cg, hvg, _, hgl⟩ := row_blk rkr hlt
      have hAV : AV = some ⟨gg, 0, none⟩ := by have := HV.out.symm.trans hvg; injection this
      subst hAV
      rw [HV.out] at rkr
      obtain ⟨x0, x1, x2⟩ := line_at rkr hx
      have hrt : rightB x.abs = true := h.ok.rt x.abs (List.mem_map_of_mem hxm)
      have hkl : x.keys.length ≤ 1000000 := by have := ((right_iff _).1 hrt).1.2.2.2; have e : x.abs.keys = x.keys := rfl; rw [e] at this; omega
      have xrs := (hr.ks x hxm).rs
      have HCS := Lib.hid (fun A c => copied_step (A := A) (c := c) hx hra)
      clear hvg rkr hx hxm hrt hra
      obtain ⟨xno, xA, xc, xk, xh⟩ := x
      simp only at x0 x1 x2 hkl xrs
      go_wp2_with ((with_reducible show wpList _ _ _ (⟨some 16, _, _, _, _, _⟩ :: _) _ _); refine wpList_abs (fun w8 => Blk w8 wr.heap.size 54 #[.int .i64 xno, .slice xA xk.length xc, .bool xh] ∧ Below wr.heap.size wr w8) (⟨Blk.new wr _ _, (Below.refl _ _).alloc (Nat.le_refl _) _⟩) ?_)
      intro w8 xb b8
      clear x0 x1 x2
      have x0 : w8.cell? ⟨wr.heap.size, 0, none⟩ = some (.int .i64 xno) := xb.at_ rfl
      have x1 : w8.cell? ⟨wr.heap.size, 1, none⟩ = some (.slice xA xk.length xc) := xb.at_ rfl
      have x2 : w8.cell? ⟨wr.heap.size, 2, none⟩ = some (.bool xh) := xb.at_ rfl
      go_wp2_with fail
      refine (copied_calls xno xk xh xA xc w8 (xrs.below b8) hkl).mono ?_
      rintro e w9 ⟨A9, c9, rfl, o9, b9⟩
      have b89 := b8.trans (b9.mono b8.size)
      have own9 := (hrow.below b89).own
      have hs9 := b89.size
      have hbs := bel.size
      clear x0 x1 x2 xb
      go_wp2_with ((with_reducible show wpList _ _ _ (⟨some 19, _, _, _, _, _⟩ :: _) _ _); refine wpList_append_rv el_line rfl (.tmp 15) (.tmp 18) rfl w.heap.size (.slice AR rs.length cR) rs.length (lC rs) rfl (own9.alloc _) (some ⟨w9.heap.size, 0, none⟩) 1 1 [.int .i64 xno, .slice A9 xk.length c9, .bool xh] rfl rfl (RV.new w9 [.int .i64 xno, .slice A9 xk.length c9, .bool xh] 54 (0, 0)) (lC_one [⟨xno, A9, c9, xk, xh⟩]) ?f2 ?f3 ?f4 ?_)
      case f2 => unfold maxLen; omega
      case f3 => omega
      case f4 => simp; omega
      intro v10 w10 own10 gr10 hv10
      have hnew := hrow.push (x := ⟨xno, A9, c9, xk, xh⟩) (fun k hk => hk.elim) (b89.alloc hs9 _) b8.size (o9.alloc _) own10 gr10 (by simpa using hv10)
      have hb10 : Below w.heap.size w w10 := ((bel.trans (b89.mono bel.size)).alloc (by omega) _).grown gr10 (by simp; omega) (fun j hj => ((own9.alloc (.cells #[.int .i64 xno, .slice A9 xk.length c9, .bool xh] 54)).lt j hj).1)
      have HC : Hid (Copied w y.ls (rs.length + 1) v10 w10) := ⟨_, by simp, HCS.out A9 c9, hnew, hb10⟩
      clear own10 gr10 hv10 hnew hb10 own9 hrow
      go_wp2
      go_roundw
      case rel => exact ⟨rs.length + 1, by omega, by go_num, HC.out⟩
      case measure => simp [intOf]; omega
    · have hE : rs.length = y.ls.length := by omega
      have dec : decide ((rs.length : Int) < (y.ls.length : Int)) = false := decide_eq_false (by omega)
      have HC : Hid (Copied w y.ls y.ls.length (.slice AR rs.length cR) wr) := ⟨rs, hE, by rw [← hE]; exact hra, hrow, bel⟩
      clear hrow hra hE
      go_wp2
      go_ret
      exact ⟨_, rfl, HC.out⟩
end Go.Proofs.YtdcjljlppeighaaDoor
