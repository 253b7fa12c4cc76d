/-
  The walk of PurgeTexts.
-/
import Derived.Test.YtdcjljlppeighaaDoorPurgeHelp
import Derived.Test.YtdcjljlppeighaaDoorPurgeOps
namespace Go.Proofs.YtdcjljlppeighaaDoor
open Go.RowKit PurgeP

theorem purgeTexts_off (no : Int) (ks : List Txt) (hd : Bool) (A : Option Addr) (cap : Nat) (s : Txt) (w : World) (hS : Std w) (hR : RS w A ks) (hl : ks.length ≤ 9223372036854775807) (hk : ∀ t ∈ ks, t.length ≤ 140737488351232) (h : (greatB ks || decide (900 < s.length)) = true) :
    Calls Tryd.prog 7 #[.agg #[.int .i64 no, .slice A ks.length cap, .bool hd], .string (bstr s)] w fun e w' => e = .returned (.bool true) ∧ Below w.heap.size w w' := by
  have xb := Blk.new w 51 #[.int .i64 no, .slice A ks.length cap, .bool hd]
  have B1 : Below w.heap.size w (w.alloc (.cells #[.int .i64 no, .slice A ks.length cap, .bool hd] 51)) := (Below.refl _ _).alloc (Nat.le_refl _) _
  have AW := awake_calls _ (hS.below B1)
  have hz := bstr_size s
  have hd9 : decide (900 < (s.length : Int)) = decide (900 < s.length) := by rw [Bool.eq_iff_iff, decide_eq_true_eq, decide_eq_true_eq]; omega
  go_enter Tryd.func7, Tryd.ntmps7
  go_wp2_with fail
  generalize w.alloc (.cells #[.int .i64 no, .slice A ks.length cap, .bool hd] 51) = w1 at *
  refine AW.mono ?_
  clear AW
  rintro e w2 ⟨rfl, b2⟩
  have xb2 := xb.below b2 xb.lt
  have B2 := B1.trans (b2.mono B1.size)
  have c1 : w2.cell? ⟨w.heap.size, 1, none⟩ = some (.slice A ks.length cap) := xb2.at_ rfl
  have GR := rgreat_calls ks A cap w2 (hR.below B2) hl hk
  have AW := awake_calls _ (hS.below B2)
  rw [← hd9] at h
  clear hd9 b2 B1 xb hS hR
  cases hg : greatB ks with
  | true =>
    rw [hg] at GR
    clear h hg
    go_wp2_with fail
    refine GR.mono ?_
    clear GR
    rintro e w3 ⟨rfl, rfl⟩
    go_wp2_with fail
    refine AW.mono ?_
    clear AW
    rintro e w4 ⟨rfl, b4⟩
    go_wp2_with fail
    go_ret
    exact ⟨rfl, B2.trans (b4.mono B2.size)⟩
  | false =>
    rw [hg] at GR h
    rw [Bool.false_or] at h
    clear hg
    go_wp2_with fail
    refine GR.mono ?_
    clear GR
    rintro e w3 ⟨rfl, rfl⟩
    go_wp2_with fail
    refine AW.mono ?_
    clear AW
    rintro e w4 ⟨rfl, b4⟩
    go_wp2_with fail
    go_ret
    exact ⟨rfl, B2.trans (b4.mono B2.size)⟩
set_option maxHeartbeats 1600000 in
theorem purgeTexts_on (no : Int) (ks : List Txt) (hd : Bool) (A : Option Addr) (cap : Nat) (s : Txt) (w : World) (hS : Std w) (hR : RS w A ks) (hcap : ks.length ≤ cap) (hc63 : cap ≤ 9223372036854775807) (hg : greatB ks = false) (hs : s.length ≤ 900) :
    Calls Tryd.prog 7 #[.agg #[.int .i64 no, .slice A ks.length cap, .bool hd], .string (bstr s)] w fun e w' => e = .returned (.bool true) ∧ Below w.heap.size w w' := by
  have xb := Blk.new w 51 #[.int .i64 no, .slice A ks.length cap, .bool hd]
  have B1 : Below w.heap.size w (w.alloc (.cells #[.int .i64 no, .slice A ks.length cap, .bool hd] 51)) := (Below.refl _ _).alloc (Nat.le_refl _) _
  have AW := awake_calls _ (hS.below B1)
  have hz := bstr_size s
  have d9 : decide (900 < (s.length : Int)) = false := decide_eq_false (by omega)
  obtain ⟨hk1, hk2⟩ := great_no hg
  go_enter Tryd.func7, Tryd.ntmps7
  go_wp2_with fail
  generalize w.alloc (.cells #[.int .i64 no, .slice A ks.length cap, .bool hd] 51) = w1 at *
  refine AW.mono ?_
  clear AW
  rintro e w2 ⟨rfl, b2⟩
  have xb2 := xb.below b2 xb.lt
  have B2 := B1.trans (b2.mono B1.size)
  have c1 : w2.cell? ⟨w.heap.size, 1, none⟩ = some (.slice A ks.length cap) := xb2.at_ rfl
  have c0 : w2.cell? ⟨w.heap.size, 0, none⟩ = some (.int .i64 no) := xb2.at_ rfl
  have c2 : w2.cell? ⟨w.heap.size, 2, none⟩ = some (.bool hd) := xb2.at_ rfl
  have GR := rgreat_calls ks A cap w2 (hR.below B2) (by omega) (fun t ht => by have := hk2 t ht; omega)
  rw [hg] at GR
  have OW := own_calls no ks hd A cap w2 (hR.below B2) (by omega)
  clear b2 B1 xb
  go_wp2_with fail
  refine GR.mono ?_
  clear GR
  rintro e w3 ⟨rfl, rfl⟩
  go_wp2_with fail
  refine OW.mono ?_
  clear OW
  rintro e w3 ⟨A3, k3, rfl, o3, b3⟩
  have B3 := B2.trans (b3.mono B2.size)
  have xb3 := xb2.below b3 xb2.lt
  have hc3 : ks.length ≤ k3 ∧ k3 ≤ 9223372036854775807 := by
    obtain ⟨A', c', e', h1', h2'⟩ := own_form o3
    injection e' with _ _ e3
    subst e3
    exact ⟨h1', by unfold maxLen at h2'; omega⟩
  have TC := text_calls no ks hd A3 k3 w3 (hS.below B3) (RV.of_own o3) hc3.1 hc3.2
  clear o3 hc3 b3 B2 xb2 c0 c1 c2
  go_wp2_with fail
  refine TC.mono ?_
  clear TC
  rintro e w4 ⟨rfl, b4⟩
  have B4 := B3.trans (b4.mono B3.size)
  have xb4 := xb3.below b4 xb3.lt
  have c0 : w4.cell? ⟨w.heap.size, 0, none⟩ = some (.int .i64 no) := xb4.at_ rfl
  have c1 : w4.cell? ⟨w.heap.size, 1, none⟩ = some (.slice A ks.length cap) := xb4.at_ rfl
  have c2 : w4.cell? ⟨w.heap.size, 2, none⟩ = some (.bool hd) := xb4.at_ rfl
  clear b4 B3 xb3
  have RT := rtext_calls no ks hd A cap w4 (hR.below B4) hcap hc63
  have PC : ∀ wq, Below w.heap.size w wq → Calls Tryd.prog 30 #[.string (bstr s)] wq (RetParse wq s) := fun wq b => parse_calls s (by omega) wq (hS.below b)
  have PR : ∀ wq, Calls Tryd.prog 31 #[.string (bstr s)] wq (RetParse wq s) := fun wq => rparse_calls s (by omega) wq
  go_wp2_with fail
  refine RT.mono ?_
  clear RT
  rintro e w5 ⟨rfl, b5⟩
  have B5 := B4.trans (b5.mono B4.size)
  have q1 : ((bstr (textT ⟨no, ks, hd⟩)).toList == (bstr (textT ⟨no, ks, hd⟩)).toList) = true := beq_self_eq_true _
  have q2 : (textE ⟨no, ks, hd⟩ == textE ⟨no, ks, hd⟩) = true := beq_self_eq_true _
  have q3 : (parE s == parE s) = true := beq_self_eq_true _
  clear b5 B4 xb4 c0 c1 c2 hR hS
  have hklen : (parL s).keys.length ≤ 1000000 := by
    cases hp : parP s with
    | none => rw [show parL s = zeroL by unfold parL; rw [hp]; rfl]; decide
    | some x => rw [show parL s = x by unfold parL; rw [hp]; rfl]; have := ((right_iff x).1 ((parP_iff s x).1 hp).1).1; omega
  generalize textT ⟨no, ks, hd⟩ = tt at *
  generalize textE ⟨no, ks, hd⟩ = te at *
  unfold RetParse at PC PR
  generalize parE s = pe at *
  generalize parL s = x at *
  obtain ⟨xn, xk, xh⟩ := x
  replace hklen : xk.length ≤ 1000000 := hklen
  go_wp2_with fail
  refine (PC w5 B5).mono ?_
  rintro e w6 ⟨A6, k6, rfl, r6, h6, h6', b6⟩
  have B6 := B5.trans (b6.mono B5.size)
  replace r6 : RS w6 A6 xk := r6
  replace h6 : xk.length ≤ k6 := h6
  obtain ⟨w7, hw7⟩ : ∃ w7, w6.alloc (.cells #[.int .i64 xn, .slice A6 xk.length k6, .bool xh] 54) = w7 := ⟨_, rfl⟩
  have b7 : Below w6.heap.size w6 w7 := by rw [← hw7]; exact (Below.refl _ _).alloc (Nat.le_refl _) _
  have p7 : Blk w7 w6.heap.size 54 #[.int .i64 xn, .slice A6 xk.length k6, .bool xh] := by rw [← hw7]; exact Blk.new _ _ _
  have HW7 := Lib.hid hw7
  clear hw7
  have B7 := B6.trans (b7.mono B6.size)
  have r7 := r6.below b7
  clear B6 b6 PC
  go_wp2_with fail
  rw [HW7.out]
  refine (PR w7).mono ?_
  clear HW7 PR b7
  rintro e w8 ⟨A8, k8, rfl, r8, h8, h8', b8⟩
  have B8 := B7.trans (b8.mono B7.size)
  replace r8 : RS w8 A8 xk := r8
  replace h8 : xk.length ≤ k8 := h8
  have p8 := p7.below b8 p7.lt
  have r7' := r7.below b8
  have b9 : ∀ o, Below w8.heap.size w8 (w8.alloc o) := fun o => (Below.refl _ _).alloc (Nat.le_refl _) _
  have B9 : ∀ o, Below w.heap.size w (w8.alloc o) := fun o => B8.trans ((b9 o).mono B8.size)
  have SC := fun o => same_calls xn xk xh A6 A8 k6 k8 (w8.alloc o) (r7'.below (b9 o)) (r8.below (b9 o)) (by omega)
  have c0 : ∀ o, (w8.alloc o).cell? ⟨w6.heap.size, 0, none⟩ = some (.int .i64 xn) := fun o => (p8.alloc o).at_ rfl
  have c1 : ∀ o, (w8.alloc o).cell? ⟨w6.heap.size, 1, none⟩ = some (.slice A6 xk.length k6) := fun o => (p8.alloc o).at_ rfl
  have c2 : ∀ o, (w8.alloc o).cell? ⟨w6.heap.size, 2, none⟩ = some (.bool xh) := fun o => (p8.alloc o).at_ rfl
  clear b9 B8 B7 p8 p7 r7 r7' r8 r6 h6 h6' h8 h8' b8
  go_wp2_with fail
  refine (SC _).mono ?_
  clear SC
  rintro e w10 ⟨rfl, b10⟩
  go_wp2_with fail
  go_ret
  exact ⟨rfl, (B9 _).trans (b10.mono (B9 _).size)⟩
theorem purgeTexts_walk (x : LnR) (s : ByteArray) (w : World) (hS : Std w) (hx : LineOK w x) : Calls Tryd.prog 7 #[.agg x.cells.toArray, .string s] w fun e w' => e = .returned (.bool true) ∧ Below w.heap.size w w' := by
  rw [← bstr_back s]
  generalize s.data.toList = t
  obtain ⟨no, A, cap, ks, hd⟩ := x
  have h1 : KeysOK w A ks cap := hx.ks
  cases hg : (greatB ks || decide (900 < t.length)) with
  | true => exact purgeTexts_off no ks hd A cap t w hS h1.rs (by have := h1.le; have := h1.cap; omega) h1.small hg
  | false =>
    rw [Bool.or_eq_false_iff, decide_eq_false_iff_not] at hg
    exact purgeTexts_on no ks hd A cap t w hS h1.rs h1.le h1.cap hg.1 (by omega)
end Go.Proofs.YtdcjljlppeighaaDoor
