/-
  Put and Get as calls; what no disk tells; the chapter's example.
-/
import Derived.Test.YtfdecpmdicnfbaaDoorPageWalkH
import Derived.Test.YtfdecpmdicnfbaaDoorStr
import Derived.Lib.SlBytesConst
namespace Go.Proofs.YtfdecpmdicnfbaaDoor
open Go.RowKit DiskP SumP PageP

theorem pput_calls (y : Lay) (at_ : Int) (kind : UInt8) (mark : Int) (b : List UInt8) (A : Option Addr) (cap : Nat) (w : World) (base : Nat) (h : DiskOK w base y) (hT : Tab w) (hb : base ≤ w.heap.size) (hR : RVF w y.foot A (cB b)) (hc : b.length ≤ cap) (hcap : cap ≤ 9223372036854775807)
    (hw : y.wp.length ≤ 1000000) (hg : 0 < base) :
    Calls Tryd.prog 13 #[.pointer (some ⟨y.D, 0, none⟩), .int .i64 at_, .int .u8 (kind.toNat : Int), .int .i64 mark, .slice A b.length cap] w (RetPut w base y (putN y.abs at_ kind b.length) (putE y.abs at_ kind b.length) (putS y.abs at_ kind mark b)) := by
  have hsz : y.abs.size = y.size := rfl
  have hof : y.abs.off = y.off := rfl
  have hll : y.abs.last.length = y.lp.length := by simp [Lay.abs]
  by_cases hno : y.abs.has at_ = false ∨ kind = 0
  · have e : putE y.abs at_ kind b.length = 1 := if_pos hno
    unfold putN putS
    rw [e]
    exact pput_arg y at_ kind mark b.length A cap w base h hno
  · have hh : y.abs.has at_ = true := by
      cases hx : y.abs.has at_
      · exact absurd (.inl hx) hno
      · rfl
    have hk : kind ≠ 0 := fun e => hno (.inr e)
    have hr : 0 ≤ at_ ∧ at_ < (y.lp.length : Int) := by
      unfold Dsk.has at hh
      rw [hll] at hh
      simpa using hh
    obtain ⟨a, rfl⟩ := Int.eq_ofNat_of_zero_le hr.1
    by_cases hfit : need y.size b.length < 1 ∨ (y.lp.length : Int) - (a : Int) < need y.size b.length
    · have e : putE y.abs (a : Int) kind b.length = 5 := by
        unfold putE
        rw [if_neg hno, hsz, hll, if_pos hfit]
      unfold putN putS
      rw [e]
      exact pput_room y (a : Int) kind mark b.length A cap w base h hr.1 hr.2 hk (by unfold fitsB; simp; omega) (by omega)
    · obtain ⟨nn, e1, e2, _⟩ := need_nat y.size b.length (by omega)
      have h19 := (need_pos (size := y.size) (bytes := b.length) (by omega)).1
      have hE : putE y.abs (a : Int) kind b.length = if y.off then 10 else 0 := by
        unfold putE
        rw [if_neg hno, hsz, hll, if_neg hfit, hof]
      refine pput_on y a kind mark b A cap w base h hT hb hR hc hcap (by omega) hk nn e1 e2 (by omega) (by omega) hw hg _ _ _ ?_
      unfold putN putS
      rw [hE, hsz, e1]
      cases y.off
      · simp
      · simp
theorem pget_arg (y : Lay) (at_ : Int) (w : World) (base : Nat) (h : DiskOK w base y) (hno : y.abs.has at_ = false) : Calls Tryd.prog 14 #[.pointer (some ⟨y.D, 0, none⟩), .int .i64 at_] w (RetGet w (1, 0, 0, [], 0)) := by
  have hl2 := h.l2
  rw [hasB_abs y at_] at hno
  have HE := Lib.hid (fun (w' : World) (hb : Below w.heap.size w w') => RetGet.no (E := 1) rfl hb)
  have B0 : ∀ q, Below w.heap.size w (w.drewN q) := fun q => ⟨rfl, rfl, rfl, Nat.le_refl _, fun _ _ => rfl⟩
  by_cases h0 : at_ < 0
  · have d0 : decide (at_ < 0) = true := decide_eq_true h0
    clear hno
    go_enter Tryd.func14, Tryd.ntmps14
    go_wp2_with fail
    refine (size_calls y w base h).mono ?_
    rintro e w1 ⟨rfl, q, rfl⟩
    go_wp2
    refine bodyPost_ret (v := .tuple #[.int .u8 0, .int .i64 0, .slice none 0 0, .int .i64 0, .int .i64 1]) (by simp [results, Tryd.results14, go_sem]) rfl (HE.out _ (B0 q))
  · have d0 : decide (at_ < 0) = false := decide_eq_false h0
    have d1 : decide ((y.lp.length : Int) ≤ at_) = true := by
      unfold hasB at hno
      simp at hno
      exact decide_eq_true (hno (by omega))
    clear hno
    go_enter Tryd.func14, Tryd.ntmps14
    go_wp2_with fail
    refine (size_calls y w base h).mono ?_
    rintro e w1 ⟨rfl, q, rfl⟩
    go_wp2
    refine bodyPost_ret (v := .tuple #[.int .u8 0, .int .i64 0, .slice none 0 0, .int .i64 0, .int .i64 1]) (by simp [results, Tryd.results14, go_sem]) rfl (HE.out _ (B0 q))
theorem pget_calls (y : Lay) (at_ : Int) (w : World) (base : Nat) (h : DiskOK w base y) (hT : Tab w) : Calls Tryd.prog 14 #[.pointer (some ⟨y.D, 0, none⟩), .int .i64 at_] w (RetGet w (getR y.abs at_)) := by
  by_cases hno : y.abs.has at_ = false
  · have e : getR y.abs at_ = (1, 0, 0, [], 0) := if_pos hno
    rw [e]
    exact pget_arg y at_ w base h hno
  · have hh : y.abs.has at_ = true := by simpa using hno
    have hll : y.abs.last.length = y.lp.length := by simp [Lay.abs]
    have hr : 0 ≤ at_ ∧ at_ < (y.lp.length : Int) := by
      unfold Dsk.has at hh
      rw [hll] at hh
      simpa using hh
    obtain ⟨a, rfl⟩ := Int.eq_ofNat_of_zero_le hr.1
    exact pget_on y a w base h hT (by omega)
theorem pput_nil (at_ : Int) (kind : UInt8) (mark : Int) (A : Option Addr) (len cap : Nat) (w : World) : Calls Tryd.prog 13 #[.pointer none, .int .i64 at_, .int .u8 (kind.toNat : Int), .int .i64 mark, .slice A len cap] w fun e w' => e = .returned (.tuple #[.int .i64 0, .int .i64 6]) ∧ w = w' := by
  go_enter Tryd.func13, Tryd.ntmps13
  go_wp2
  go_ret2
  exact ⟨rfl, rfl⟩
theorem pget_nil (at_ : Int) (w : World) : Calls Tryd.prog 14 #[.pointer none, .int .i64 at_] w fun e w' => e = .returned (.tuple #[.int .u8 0, .int .i64 0, .slice none 0 0, .int .i64 0, .int .i64 6]) ∧ w = w' := by
  go_enter Tryd.func14, Tryd.ntmps14
  go_wp2
  refine bodyPost_ret (v := .tuple #[.int .u8 0, .int .i64 0, .slice none 0 0, .int .i64 0, .int .i64 6]) (by simp [results, Tryd.results14, go_sem]) rfl ?_
  exact ⟨rfl, rfl⟩
theorem psize_nil (w : World) : Calls Tryd.prog 27 #[.pointer none] w fun e w' => e = .returned (.tuple #[.int .i64 0, .int .i64 0]) ∧ w = w' := by
  go_enter Tryd.func27, Tryd.ntmps27
  go_wp2
  go_ret2
  exact ⟨rfl, rfl⟩
theorem pfits_nil (w : World) : Calls Tryd.prog 15 #[.pointer none, .int .i64 0, .int .i64 0] w fun e w' => e = .returned (.bool false) ∧ w = w' := by
  have NC := fun w => pneed_calls 0 0 w
  rw [show need 0 0 = 0 by decide] at NC
  go_enter Tryd.func15, Tryd.ntmps15
  go_wp2_with fail
  refine (psize_nil w).mono ?_
  rintro e w1 ⟨rfl, rfl⟩
  go_wp2_with fail
  refine (NC _).mono ?_
  rintro e w2 ⟨rfl, rfl⟩
  go_wp2
  go_ret
  exact ⟨rfl, rfl⟩
theorem bstr_list (t : List UInt8) : (bstr t).toList = t := by
  rw [ByteArray.toList_eq]; rfl
def ex7 : List UInt8 := [49, 50, 51, 52, 53, 54, 55]
theorem Tab.lt {w : World} (h : Tab w) : 0 < w.heap.size := block_lt_of_cell (h 0#32)
theorem Tab.below {w w' : World} (h : Tab w) (hb : Below w.heap.size w w') : Tab w' := h.far (Kept.of_below hb (fun _ => False)) (fun h => h)
theorem ex_put : putE (newD 4 24) 1 7 ex7.length = 0 ∧ putN (newD 4 24) 1 7 ex7.length = 2 := by decide
theorem ex_get : getR (putS (newD 4 24) 1 7 (-2) ex7) 1 = (0, 7, -2, ex7, 2) := by
  have := getR_put (newD 4 24) 1 7 (-2) ex7 ex_put.1 (by decide) (by decide)
  rw [show ((1 : Nat) : Int) = 1 from rfl, ex_put.2] at this
  exact this
theorem awake_calls (w : World) (hT : Tab w) : Calls Tryd.prog 16 #[] w fun e w' => e = .returned (.bool true) ∧ Below w.heap.size w w' := by
  have hg := hT.lt
  have kc := fun (w : World) (C : Array Value) (n c : Nat) => Lib.run_convert_bytes_const (P := Tryd.prog) w 27 5 C n c Tryd.underlying27 Tryd.underlying5
  go_enter Tryd.func16, Tryd.ntmps16
  go_wp2_with fail
  refine (new_calls 4 24 w (by omega) (by omega) (by omega) (by omega)).mono ?_
  rintro e w1 ⟨y1, rfl, h1, a1, l1, s1, b1⟩
  go_wp2_with fail
  have b2 : Below w1.heap.size w1 (w1.alloc (.cells (cB ex7).toArray 5 (7, 8))) := (Below.refl _ _).alloc (Nat.le_refl _) _
  have rv : RVF (w1.alloc (.cells (cB ex7).toArray 5 (7, 8))) y1.foot (some ⟨w1.heap.size, 0, none⟩) (cB ex7) := by
    intro hne
    obtain ⟨b, off, e, h2, h3⟩ := RV.new w1 (cB ex7) 5 (7, 8) hne
    refine ⟨b, off, e, h2, fun hf => ?_, h3⟩
    injection e with e
    injection e with e _
    subst e
    exact absurd (h1.foot_lt hf).2 (by omega)
  have P := pput_calls y1 1 7 (-2) ex7 (some ⟨w1.heap.size, 0, none⟩) 7 _ w.heap.size (h1.below b2) ((hT.below b1).below b2) (Nat.le_trans b1.size b2.size) rv (by decide) (by decide) (by rw [wlen, a1]; decide) hg
  rw [a1, ex_put.1, ex_put.2] at P
  refine P.mono ?_
  rintro e w2 ⟨rfl, y2, h2, a2, d2, k2, f2⟩
  have T2 : Tab w2 := ((hT.below b1).below b2).far k2 (fun hf => by have := (h1.foot_lt hf).1; omega)
  have b3 : Below w.heap.size w w2 := (b1.trans (b2.mono b1.size)).trans (k2.below (fun k _ hk => (h1.foot_lt hk).1) (Nat.le_trans b1.size b2.size))
  have G := pget_calls y2 1 w2 w.heap.size h2 T2
  rw [a2, ex_get] at G
  rw [← d2]
  clear P rv b2 k2 f2 d2 a2 h1 a1 l1 s1 b1 hT hg
  go_wp2_with fail
  refine G.mono ?_
  rintro e w3 ⟨v3, rfl, o3, b4⟩
  obtain ⟨A3, c3, hv3, _, _⟩ := own_form o3
  have r3 : RB w3 A3 ex7 := by rw [hv3] at o3; exact RV.of_own o3
  have cv := run_str w3 _ _ _ Tryd.underlying27 Tryd.underlying5 Tryd.underlying9 A3 ex7 ex7.length c3 r3 rfl
  subst hv3
  have b5 := b3.trans (b4.mono b3.size)
  have RC := proom_calls 24 1 w3
  have NC := pneed_calls 24 7 w3
  rw [show room 24 1 = 6 by decide] at RC
  rw [show need 24 7 = 2 by decide] at NC
  clear G h2 T2 o3 r3 b4 b3 kc
  go_wp2_with fail
  refine RC.mono ?_
  rintro e w4 ⟨rfl, rfl⟩
  go_wp2_with fail
  refine NC.mono ?_
  rintro e w4 ⟨rfl, rfl⟩
  clear RC NC
  have tl : ((bstr ex7).toList == [49, 50, 51, 52, 53, 54, 55]) = true := by rw [bstr_list]; rfl
  go_wp2
  go_ret
  exact ⟨rfl, b5⟩
end Go.Proofs.YtfdecpmdicnfbaaDoor
