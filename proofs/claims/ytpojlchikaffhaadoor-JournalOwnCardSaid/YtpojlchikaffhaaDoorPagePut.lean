/-
  Put and Get as calls; the size that no disk tells.
-/
import Derived.Test.YtpojlchikaffhaaDoorPageWalkH
import Derived.Test.YtpojlchikaffhaaDoorStr
namespace Go.Proofs.YtpojlchikaffhaaDoor
open Go.RowKit DiskP SumP PageP

theorem pput_calls (y : Lay) (at_ : Int) (kind : UInt8) (mark : Int) (b : List UInt8) (A : Option Addr) (cap : Nat) (w : World) (base : Nat) (h : DiskOK w base y) (hT : Tab w) (hb : base ≤ w.heap.size) (hR : RVF w y.foot A (cB b)) (hc : b.length ≤ cap) (hcap : cap ≤ 9223372036854775807)
    (hw : y.wp.length ≤ 1000000) (hg : 0 < base) :
    Calls Tryd.prog 34 #[.pointer (some ⟨y.D, 0, none⟩), .int .i64 at_, .int .u8 (kind.toNat : Int), .int .i64 mark, .slice A b.length cap] w (RetPut w base y (putN y.abs at_ kind b.length) (putE y.abs at_ kind b.length) (putS y.abs at_ kind mark b)) := by
  have hsz : y.abs.size = y.size := rfl
  have hof : y.abs.off = y.off := rfl
  have hll : y.abs.last.length = y.lp.length := by simp [Lay.abs]
  by_cases hno : y.abs.has at_ = false ∨ kind = 0
  · have e : putE y.abs at_ kind b.length = 1 := if_pos hno
    unfold putN putS
    rw [e]
    exact pput_arg y at_ kind mark b.length A cap w base h hno
  · have hh : y.abs.has at_ = true := by
      cases hx : y.abs.has at_
      · exact absurd (.inl hx) hno
      · rfl
    have hk : kind ≠ 0 := fun e => hno (.inr e)
    have hr : 0 ≤ at_ ∧ at_ < (y.lp.length : Int) := by
      unfold Dsk.has at hh
      rw [hll] at hh
      simpa using hh
    obtain ⟨a, rfl⟩ := Int.eq_ofNat_of_zero_le hr.1
    by_cases hfit : need y.size b.length < 1 ∨ (y.lp.length : Int) - (a : Int) < need y.size b.length
    · have e : putE y.abs (a : Int) kind b.length = 5 := by
        unfold putE
        rw [if_neg hno, hsz, hll, if_pos hfit]
      unfold putN putS
      rw [e]
      exact pput_room y (a : Int) kind mark b.length A cap w base h hr.1 hr.2 hk (by unfold fitsB; simp; omega) (by omega)
    · obtain ⟨nn, e1, e2, _⟩ := need_nat y.size b.length (by omega)
      have h19 := (need_pos (size := y.size) (bytes := b.length) (by omega)).1
      have hE : putE y.abs (a : Int) kind b.length = if y.off then 10 else 0 := by
        unfold putE
        rw [if_neg hno, hsz, hll, if_neg hfit, hof]
      refine pput_on y a kind mark b A cap w base h hT hb hR hc hcap (by omega) hk nn e1 e2 (by omega) (by omega) hw hg _ _ _ ?_
      unfold putN putS
      rw [hE, hsz, e1]
      cases y.off
      · simp
      · simp
theorem pget_arg (y : Lay) (at_ : Int) (w : World) (base : Nat) (h : DiskOK w base y) (hno : y.abs.has at_ = false) : Calls Tryd.prog 51 #[.pointer (some ⟨y.D, 0, none⟩), .int .i64 at_] w (RetGet w (1, 0, 0, [], 0)) := by
  have hl2 := h.l2
  rw [hasB_abs y at_] at hno
  have HE := Lib.hid (fun (w' : World) (hb : Below w.heap.size w w') => RetGet.no (E := 1) rfl hb)
  have B0 : ∀ q, Below w.heap.size w (w.drewN q) := fun q => ⟨rfl, rfl, rfl, Nat.le_refl _, fun _ _ => rfl⟩
  by_cases h0 : at_ < 0
  · have d0 : decide (at_ < 0) = true := decide_eq_true h0
    clear hno
    go_enter Tryd.func51, Tryd.ntmps51
    go_wp2_with fail
    refine (size_calls y w base h).mono ?_
    rintro e w1 ⟨rfl, q, rfl⟩
    go_wp2
    refine bodyPost_ret (v := .tuple #[.int .u8 0, .int .i64 0, .slice none 0 0, .int .i64 0, .int .i64 1]) (by simp [results, Tryd.results51, go_sem]) rfl (HE.out _ (B0 q))
  · have d0 : decide (at_ < 0) = false := decide_eq_false h0
    have d1 : decide ((y.lp.length : Int) ≤ at_) = true := by
      unfold hasB at hno
      simp at hno
      exact decide_eq_true (hno (by omega))
    clear hno
    go_enter Tryd.func51, Tryd.ntmps51
    go_wp2_with fail
    refine (size_calls y w base h).mono ?_
    rintro e w1 ⟨rfl, q, rfl⟩
    go_wp2
    refine bodyPost_ret (v := .tuple #[.int .u8 0, .int .i64 0, .slice none 0 0, .int .i64 0, .int .i64 1]) (by simp [results, Tryd.results51, go_sem]) rfl (HE.out _ (B0 q))
theorem pget_calls (y : Lay) (at_ : Int) (w : World) (base : Nat) (h : DiskOK w base y) (hT : Tab w) : Calls Tryd.prog 51 #[.pointer (some ⟨y.D, 0, none⟩), .int .i64 at_] w (RetGet w (getR y.abs at_)) := by
  by_cases hno : y.abs.has at_ = false
  · have e : getR y.abs at_ = (1, 0, 0, [], 0) := if_pos hno
    rw [e]
    exact pget_arg y at_ w base h hno
  · have hh : y.abs.has at_ = true := by simpa using hno
    have hll : y.abs.last.length = y.lp.length := by simp [Lay.abs]
    have hr : 0 ≤ at_ ∧ at_ < (y.lp.length : Int) := by
      unfold Dsk.has at hh
      rw [hll] at hh
      simpa using hh
    obtain ⟨a, rfl⟩ := Int.eq_ofNat_of_zero_le hr.1
    exact pget_on y a w base h hT (by omega)
theorem psize_nil (w : World) : Calls Tryd.prog 37 #[.pointer none] w fun e w' => e = .returned (.tuple #[.int .i64 0, .int .i64 0]) ∧ w = w' := by
  go_enter Tryd.func37, Tryd.ntmps37
  go_wp2
  go_ret2
  exact ⟨rfl, rfl⟩
theorem bstr_list (t : List UInt8) : (bstr t).toList = t := by
  rw [ByteArray.toList_eq]; rfl
theorem Tab.lt {w : World} (h : Tab w) : 0 < w.heap.size := block_lt_of_cell (h 0#32)
theorem Tab.below {w w' : World} (h : Tab w) (hb : Below w.heap.size w w') : Tab w' := h.far (Kept.of_below hb (fun _ => False)) (fun h => h)
end Go.Proofs.YtpojlchikaffhaaDoor
