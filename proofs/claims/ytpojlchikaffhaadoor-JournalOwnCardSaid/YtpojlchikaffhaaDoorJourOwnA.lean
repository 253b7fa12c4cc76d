/-
  A log's copied and All, where there is one record at most: its bytes lie in a row of the call's own.
-/
import Derived.Test.YtpojlchikaffhaaDoorJourHelpB
namespace Go.Proofs.YtpojlchikaffhaaDoor
open Go.RowKit DiskP PageP JourP

/-- Each record's bytes lie in a row of the call's own. -/
def OwnB (w : World) (N : Nat) (rs : List RecR) : Prop := ∀ x ∈ rs, w.ownsRow N 5 1 (.slice x.A x.body.length x.cap) x.body.length (cB x.body)
def RetRows1 (w : World) (l : List RecR) (e : Ending) (w' : World) : Prop := ∃ v rs, e = .returned v ∧ rs.length = l.length ∧ rs.map RecR.abs = l.map RecR.abs ∧ RowR w' w.heap.size (fun k => k < w.heap.size) v rs ∧ Below w.heap.size w w' ∧ OwnB w' w.heap.size rs
def CopiedO (w : World) (ls : List RecR) (k : Nat) (v : Value) (wr : World) : Prop :=
  ∃ rs, rs.length = k ∧ rs.map RecR.abs = (ls.take k).map RecR.abs ∧ RowR wr w.heap.size (fun k => k < w.heap.size) v rs ∧ Below w.heap.size w wr ∧ OwnB wr w.heap.size rs
theorem own_low {w : World} {N M : Nat} {e : TypeId} {s n : Nat} {v : Value} {xs : List Value} (h : w.ownsRow N e s v n xs) (hm : M ≤ N) : w.ownsRow M e s v n xs := by
  refine ⟨h.1, ?_⟩
  rcases h.2 with h0 | ⟨g, cap, cur, h1, h2, h3⟩
  · exact .inl h0
  · exact .inr ⟨g, cap, cur, h1, Nat.le_trans hm h2, h3⟩
set_option maxHeartbeats 3200000 in
theorem jcopied_o1 (ls : List RecR) (A : Option Addr) (cap : Nat) (w : World) (hR : RV w A (rC ls)) (hx : ∀ x ∈ ls, RecOK w (fun _ => False) x) (hs : ∀ x ∈ ls, x.body.length ≤ 1000000) (hl : ls.length ≤ 1) :
    Calls Tryd.prog 36 #[.slice A ls.length cap] w (RetRows1 w ls) := by
  go_enter Tryd.func36, Tryd.ntmps36
  go_wp2
  go_loopw [3, 8] (fun v i wr => ∃ k : Nat, k ≤ ls.length ∧ i = .int .i64 (k : Int) ∧ CopiedO w ls k v wr) (fun _ i _ => ls.length - (intOf i).toNat)
  case atStart => exact ⟨0, by omega, rfl, [], rfl, rfl, RowR.nil _ _ _, Below.refl _ _, fun x hx => by simp at hx⟩
  case round =>
    obtain ⟨k, hk, rfl, rs, rfl, hra, hrow, bel, hob⟩ := hrel
    obtain ⟨AR, cR, rfl, _, _⟩ := own_form hrow.own
    by_cases hlt : rs.length < ls.length
    · have dec : decide ((rs.length : Int) < (ls.length : Int)) = true := decide_eq_true (by omega)
      have dec' : decide (rs.length < ls.length) = true := decide_eq_true hlt
      obtain ⟨x, hxk⟩ : ∃ x, ls[rs.length]? = some x := ⟨_, List.getElem?_eq_getElem hlt⟩
      have hxm : x ∈ ls := List.mem_of_getElem? hxk
      obtain ⟨g, off, rfl, hg, x0, x1⟩ := rec_elem (hR.below bel) hxk
      have xrd := ((hx x hxm).rd.rv).below bel
      have xs := hs x hxm
      have HCS := Lib.hid (fun A c => copiedR_step (A := A) (c := c) hxk hra)
      clear hxk hxm hra hx hs
      obtain ⟨xk, xA, xc, xb⟩ := x
      simp only at x0 x1 xrd xs
      go_wp2_with fail
      have bb := Blk.new wr 40 #[.int .u8 (xk.toNat : Int), .slice xA xb.length xc]
      have b1 : Below wr.heap.size wr (wr.alloc (.cells #[.int .u8 (xk.toNat : Int), .slice xA xb.length xc] 40)) := (Below.refl _ _).alloc (Nat.le_refl _) _
      have hz1 : wr.heap.size < (wr.alloc (.cells #[.int .u8 (xk.toNat : Int), .slice xA xb.length xc] 40)).heap.size := by simp
      have xr1 := xrd.below b1
      have bel1 := bel.trans (b1.mono bel.size)
      generalize wr.alloc (.cells #[.int .u8 (xk.toNat : Int), .slice xA xb.length xc] 40) = w1 at *
      clear x0 x1 xrd
      have row1 := hrow.below b1
      have hbs := bel.size
      have x0 : w1.cell? ⟨wr.heap.size, 0, none⟩ = some (.int .u8 (xk.toNat : Int)) := bb.at_ rfl
      have x1 : w1.cell? ⟨wr.heap.size, 1, none⟩ = some (.slice xA xb.length xc) := bb.at_ rfl
      have HP : Hid (∀ (w3 w4 : World) (A3 : Option Addr) (c3 : Nat) (v : Value), Below w1.heap.size w1 w3 → w3.ownsRow w1.heap.size 5 1 (.slice A3 xb.length c3) xb.length (cB xb) → w4.ownsRow w.heap.size 40 2 v (rs.length + 1) (rC rs ++ [.int .u8 (xk.toNat : Int), .slice A3 xb.length c3]) →
          w3.grownBy w4 (Value.slice AR rs.length cR).ownBlock → (v.ownBlock = (Value.slice AR rs.length cR).ownBlock ∨ v.ownBlock = some w3.heap.size) → CopiedO w ls (rs.length + 1) v w4) := by
        intro w3 w4 A3 c3 v b3 o3 o4 g4 hv
        refine ⟨rs ++ [⟨xk, A3, c3, xb⟩], by simp, HCS.out A3 c3, RowR.pushV (x := ⟨xk, A3, c3, xb⟩) row1 b3 (RecOK.made (x := ⟨xk, A3, c3, xb⟩) row1.own (fun k hk => by have := bel1.size; omega) (Nat.le_refl _) o3) o4 g4 hv, (bel1.trans (b3.mono bel1.size)).grown g4 ?_ ?_, ?_⟩
        · have := bel1.size; have := b3.size; omega
        · intro j hj; exact (row1.own.lt j hj).1
        · obtain rfl : rs = [] := List.length_eq_zero_iff.1 (by omega)
          intro z hz
          obtain rfl : z = ⟨xk, A3, c3, xb⟩ := by simpa using hz
          refine own_frame (own_low o3 bel1.size) fun i hi => g4.block i (o3.lt i hi).2 fun hh => ?_
          have q1 := (o3.lt i hi).1
          have q2 := (row1.own.lt i hh.symm).2
          have q3 := (hrow.own.lt i hh.symm).2
          omega
      have KB : Hid (∀ (w4 : World), Below w1.heap.size w1 w4 → Blk w4 wr.heap.size 40 #[.int .u8 (xk.toNat : Int), .slice xA xb.length xc] ∧ w4.ownsRow w.heap.size 40 2 (.slice AR rs.length cR) rs.length (rC rs)) := fun w4 b4 => ⟨bb.below b4 hz1, (row1.below b4).own⟩
      clear hR hrow bb row1 bel hbs hob
      go_region_law (first
        | (refine step_append_rv (A := xA) (m := xb.length) (c := xc) (v := .slice none 0 0) (n := 0) (base := w1.heap.size) (xs := []) el_u8 rfl (.const (.slice none 0 0)) (.tmp 16) rfl rfl (World.ownsRow_nil _ _ _ _) rfl (by rw [cB_len, Nat.mul_one]) xr1.drew (cB_one _) (by unfold maxLen; omega) (by omega) (Nat.le_refl _) ?_; intro v4 w4 own4 gr4 hv4; (have own5 : w4.ownsRow w1.heap.size 5 1 v4 xb.length (cB xb) := by simpa using own4); (obtain ⟨A4, c4, hv4f, _, _⟩ := own_form own5); subst hv4f; have b4 : Below w1.heap.size w1 w4 := Below.grown ((Below.refl _ w1).drew) gr4 (Nat.le_refl _) (fun j hj => by cases hj); have q0 : w4.cell? ⟨wr.heap.size, 0, none⟩ = some (.int .u8 (xk.toNat : Int)) := (KB.out w4 b4).1.at_ rfl; have q1 : w4.cell? ⟨wr.heap.size, 1, none⟩ = some (.slice xA xb.length xc) := (KB.out w4 b4).1.at_ rfl; clear own4 gr4 hv4)
        | (refine step_append_rv (A := some ⟨w4.heap.size, 0, none⟩) (m := 1) (c := 1) (v := .slice AR rs.length cR) (n := rs.length) (base := w.heap.size) (xs := rC rs) el_rec rfl (.tmp 12) (.tmp 19) rfl rfl ((KB.out w4 b4).2.alloc _) rfl rfl (RV.new w4 [.int .u8 (xk.toNat : Int), .slice A4 xb.length c4] 40 (0, 0)) (rC_one [⟨xk, A4, c4, xb⟩]) (by unfold maxLen; omega) (by omega) (by have := bel1.size; have := b4.size; simp; omega) ?_; intro v5 w5 own6 gr5 hv5; (obtain ⟨A5, c5, hv5f, _, _⟩ := own_form own6); subst hv5f; have HC := Lib.hid (HP.out _ w5 A4 c4 _ (b4.alloc b4.size _) (own5.alloc _) own6 gr5 (by simpa using hv5)); clear own6 gr5 hv5 own5 b4 q0 q1))
      all_goals
        clear HP KB HCS
        go_wp2
        go_roundw
        case rel => exact ⟨rs.length + 1, by omega, by go_num, HC.out⟩
        case measure => simp [intOf]; omega
    · have hE : rs.length = ls.length := by omega
      have dec : decide ((rs.length : Int) < (ls.length : Int)) = false := decide_eq_false (by omega)
      have dec' : decide (rs.length < ls.length) = false := decide_eq_false hlt
      have HC : Hid (RetRows1 w ls (.returned (.slice AR rs.length cR)) wr) := ⟨_, rs, rfl, hE, by rw [hra, hE, List.take_length], hrow, bel, hob⟩
      clear hob
      clear hrow hra hE
      go_wp2
      go_ret
      exact HC.out
theorem jall_o1 (j : JL) (p : PJ) (h1 : j.rs.length ≤ 1) (w : World) (base : Nat) (h : JLog w base j p) :
    Calls Tryd.prog 14 #[.pointer (some ⟨j.G, 0, none⟩)] w (RetRows1 w j.rs) := by
  obtain ⟨A, c, hv, hrv, hks, hn⟩ := h.rows
  have c7 := h.ok.c7
  rw [hv] at c7
  have CC := jcopied_o1 j.rs A c w hrv hks (fun x hx => by have := h.small x hx; omega) h1
  clear h hv hrv hks
  go_enter Tryd.func14, Tryd.ntmps14
  go_wp2_with fail
  refine CC.mono ?_
  clear CC
  rintro e w1 ⟨v, rs, rfl, h1, h2, h3, h4, h5⟩
  have HF : Hid (RetRows1 w j.rs (.returned v) w1) := ⟨v, rs, rfl, h1, h2, h3, h4, h5⟩
  clear h1 h2 h3 h4 h5
  go_wp2
  go_ret
  exact HF.out
/-- All records, where there is one at most. -/
def RetAll1 (w : World) (rs : List Rec) (n : Nat) (e : Ending) (w' : World) : Prop := ∃ A c xs, e = .returned (.slice A n c) ∧ xs.length = n ∧ xs.map RecR.abs = rs ∧ RowR w' w.heap.size (fun k => k < w.heap.size) (.slice A n c) xs ∧ Below w.heap.size w w' ∧ OwnB w' w.heap.size xs
theorem jall_one (j : JL) (p : PJ) (n : Nat) (hn : p.rs.length = n) (h1 : n ≤ 1) (w : World) (base : Nat) (h : JLog w base j p) :
    Calls Tryd.prog 14 #[.pointer (some ⟨j.G, 0, none⟩)] w (RetAll1 w p.rs n) := by
  have hl := h.len
  refine (jall_o1 j p (by omega) w base h).mono ?_
  rintro e w' ⟨v, xs, rfl, h1, h2, h3, h4, h6⟩
  have h5 := h3.own
  rw [h1, hl, hn] at h5
  obtain ⟨A, c, rfl, _, _⟩ := own_form h5
  exact ⟨A, c, xs, rfl, by omega, by rw [h2, h.frs], h3, h4, h6⟩
end Go.Proofs.YtpojlchikaffhaaDoor
