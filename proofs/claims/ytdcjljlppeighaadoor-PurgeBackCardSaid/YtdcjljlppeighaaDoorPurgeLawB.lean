/-
  The walk of PurgeBack.
-/
import Derived.Test.YtdcjljlppeighaaDoorPurgeLawA
namespace Go.Proofs.YtdcjljlppeighaaDoor
open Go.RowKit PurgeP

theorem sumN_body : ∀ ks : List Txt, (bodyT ks).length = sumN ks := by
  intro ks
  induction ks with
  | nil => rfl
  | cons k ks ih =>
    have e : sumN (k :: ks) = 1 + k.length + sumN ks := by simp [sumN]
    have e2 : bodyT (k :: ks) = [32] ++ k ++ bodyT ks := by simp [bodyT]
    rw [e, e2, List.length_append, List.length_append, ih]
    simp only [List.length_singleton]
theorem text_short {x : Ln} (h : rightB x = true) (hg : greatB x.keys = false) : (textL x).length ≤ 1000 := by
  have h1 := ((right_iff x).1 h).1
  unfold greatB at hg
  rw [decide_eq_false_iff_not] at hg
  have hw : (wordT x.hard).length = 5 := by unfold wordT; cases x.hard <;> rfl
  have hi : (Lib.itoa x.no).length ≤ 13 := by
    obtain ⟨n, hn⟩ : ∃ n : Nat, x.no = (n : Int) := ⟨x.no.toNat, by omega⟩
    have e : Lib.itoa x.no = Lib.decDigits n := by rw [hn]; unfold Lib.itoa; rw [if_neg (by omega)]; rfl
    rw [e]
    exact dec_len13 n (by omega)
  unfold textL
  rw [List.length_append, List.length_append, hw, sumN_body]
  omega
theorem par_text {x : Ln} (h : rightB x = true) : parL (textL x) = x ∧ parE (textL x) = 0 := by
  have hp := (parP_iff (textL x) x).2 ⟨h, rfl⟩
  unfold parL parE
  rw [hp]
  exact ⟨rfl, rfl⟩
theorem par_nil : parE [] = 2 := by
  have : parP [] = none := by unfold parP; rw [show wordsS [] = [[]] from rfl]; rfl
  unfold parE
  rw [this]
  rfl
theorem par_back {s : Txt} {x : Ln} (h : parP s = some x) : textT x = s ∧ textE x = 0 ∧ parL s = x ∧ parE s = 0 := by
  obtain ⟨h1, h2⟩ := (parP_iff s x).1 h
  refine ⟨?_, ?_, ?_, ?_⟩
  · unfold textT; rw [if_pos h1, h2]
  · unfold textE; rw [if_pos h1]
  · unfold parL; rw [h]; rfl
  · unfold parE; rw [h]; rfl
theorem purgeBack_off (no : Int) (ks : List Txt) (hd : Bool) (A : Option Addr) (cap : Nat) (s : Txt) (w : World) (hS : Std w) (hR : RS w A ks) (hl : ks.length ≤ 9223372036854775807) (hk : ∀ t ∈ ks, t.length ≤ 140737488351232) (h : (greatB ks || decide (900 < s.length)) = true) :
    Calls Tryd.prog 8 #[.agg #[.int .i64 no, .slice A ks.length cap, .bool hd], .string (bstr s)] w fun e w' => e = .returned (.bool true) ∧ Below w.heap.size w w' := by
  have xb := Blk.new w 51 #[.int .i64 no, .slice A ks.length cap, .bool hd]
  have B1 : Below w.heap.size w (w.alloc (.cells #[.int .i64 no, .slice A ks.length cap, .bool hd] 51)) := (Below.refl _ _).alloc (Nat.le_refl _) _
  have AW := awake_calls _ (hS.below B1)
  have hz := bstr_size s
  have hd9 : decide (900 < (s.length : Int)) = decide (900 < s.length) := by rw [Bool.eq_iff_iff, decide_eq_true_eq, decide_eq_true_eq]; omega
  go_enter Tryd.func8, Tryd.ntmps8
  go_wp2_with fail
  generalize w.alloc (.cells #[.int .i64 no, .slice A ks.length cap, .bool hd] 51) = w1 at *
  refine AW.mono ?_
  clear AW
  rintro e w2 ⟨rfl, b2⟩
  have xb2 := xb.below b2 xb.lt
  have B2 := B1.trans (b2.mono B1.size)
  have c1 : w2.cell? ⟨w.heap.size, 1, none⟩ = some (.slice A ks.length cap) := xb2.at_ rfl
  have GR := rgreat_calls ks A cap w2 (hR.below B2) hl hk
  have AW := awake_calls _ (hS.below B2)
  rw [← hd9] at h
  clear hd9 b2 B1 xb hS hR
  cases hg : greatB ks with
  | true =>
    rw [hg] at GR
    clear h hg
    go_wp2_with fail
    refine GR.mono ?_
    clear GR
    rintro e w3 ⟨rfl, rfl⟩
    go_wp2_with fail
    refine AW.mono ?_
    clear AW
    rintro e w4 ⟨rfl, b4⟩
    go_wp2_with fail
    go_ret
    exact ⟨rfl, B2.trans (b4.mono B2.size)⟩
  | false =>
    rw [hg] at GR h
    rw [Bool.false_or] at h
    clear hg
    go_wp2_with fail
    refine GR.mono ?_
    clear GR
    rintro e w3 ⟨rfl, rfl⟩
    go_wp2_with fail
    refine AW.mono ?_
    clear AW
    rintro e w4 ⟨rfl, b4⟩
    go_wp2_with fail
    go_ret
    exact ⟨rfl, B2.trans (b4.mono B2.size)⟩
set_option maxHeartbeats 1600000 in
theorem purgeBack_r_none (no : Int) (ks : List Txt) (hd : Bool) (A : Option Addr) (cap : Nat) (s : Txt) (w : World) (hS : Std w) (hR : RS w A ks) (hcap : ks.length ≤ cap) (hc63 : cap ≤ 9223372036854775807) (hg : greatB ks = false) (hs : s.length ≤ 900) (hr : rightB ⟨no, ks, hd⟩ = true) (hp : parP s = none) :
    Calls Tryd.prog 8 #[.agg #[.int .i64 no, .slice A ks.length cap, .bool hd], .string (bstr s)] w fun e w' => e = .returned (.bool true) ∧ Below w.heap.size w w' := by
  have xb := Blk.new w 51 #[.int .i64 no, .slice A ks.length cap, .bool hd]
  have B1 : Below w.heap.size w (w.alloc (.cells #[.int .i64 no, .slice A ks.length cap, .bool hd] 51)) := (Below.refl _ _).alloc (Nat.le_refl _) _
  have AW := awake_calls _ (hS.below B1)
  have hz := bstr_size s
  have d9 : decide (900 < (s.length : Int)) = false := decide_eq_false (by omega)
  obtain ⟨hk1, hk2⟩ := great_no hg
  go_enter Tryd.func8, Tryd.ntmps8
  go_wp2_with fail
  generalize w.alloc (.cells #[.int .i64 no, .slice A ks.length cap, .bool hd] 51) = w1 at *
  refine AW.mono ?_
  clear AW
  rintro e w2 ⟨rfl, b2⟩
  have xb2 := xb.below b2 xb.lt
  have B2 := B1.trans (b2.mono B1.size)
  have c1 : w2.cell? ⟨w.heap.size, 1, none⟩ = some (.slice A ks.length cap) := xb2.at_ rfl
  have c0 : w2.cell? ⟨w.heap.size, 0, none⟩ = some (.int .i64 no) := xb2.at_ rfl
  have c2 : w2.cell? ⟨w.heap.size, 2, none⟩ = some (.bool hd) := xb2.at_ rfl
  have GR := rgreat_calls ks A cap w2 (hR.below B2) (by omega) (fun t ht => by have := hk2 t ht; omega)
  rw [hg] at GR
  have OW := own_calls no ks hd A cap w2 (hR.below B2) (by omega)
  clear b2 B1 xb
  go_wp2_with fail
  refine GR.mono ?_
  clear GR
  rintro e w3 ⟨rfl, rfl⟩
  go_wp2_with fail
  refine OW.mono ?_
  clear OW
  rintro e w3 ⟨A3, k3, rfl, o3, b3⟩
  have B3 := B2.trans (b3.mono B2.size)
  have xb3 := xb2.below b3 xb2.lt
  have hc3 : ks.length ≤ k3 ∧ k3 ≤ 9223372036854775807 := by
    obtain ⟨A', c', e', h1', h2'⟩ := own_form o3
    injection e' with _ _ e3
    subst e3
    exact ⟨h1', by unfold maxLen at h2'; omega⟩
  have TC := text_calls no ks hd A3 k3 w3 (hS.below B3) (RV.of_own o3) hc3.1 hc3.2
  have ht := text_short hr hg
  obtain ⟨p1, p2⟩ := par_text hr
  rw [show textT ⟨no, ks, hd⟩ = textL ⟨no, ks, hd⟩ by unfold textT; rw [if_pos hr], show textE ⟨no, ks, hd⟩ = 0 by unfold textE; rw [if_pos hr]] at TC
  generalize textL ⟨no, ks, hd⟩ = tt at *
  clear o3 hc3 b3 B2 xb2 c0 c1 c2
  go_wp2_with fail
  refine TC.mono ?_
  clear TC
  rintro e w4 ⟨rfl, b4⟩
  have B4 := B3.trans (b4.mono B3.size)
  have xb4 := xb3.below b4 xb3.lt
  have c0 : w4.cell? ⟨w.heap.size, 0, none⟩ = some (.int .i64 no) := xb4.at_ rfl
  have c1 : w4.cell? ⟨w.heap.size, 1, none⟩ = some (.slice A ks.length cap) := xb4.at_ rfl
  have c2 : w4.cell? ⟨w.heap.size, 2, none⟩ = some (.bool hd) := xb4.at_ rfl
  clear b4 B3 xb3
  have PT := parse_calls tt ht w4 (hS.below B4)
  unfold RetParse at PT
  rw [p1, p2] at PT
  clear p1 p2 ht c0 c1 c2
  go_wp2_with fail
  refine PT.mono ?_
  clear PT
  rintro e w5 ⟨A5, k5, rfl, r5, h5, h5', b5⟩
  have B5 := B4.trans (b5.mono B4.size)
  have xb5 := xb4.below b5 xb4.lt
  replace r5 : RS w5 A5 ks := r5
  replace h5 : ks.length ≤ k5 := h5
  have hne : w.heap.size < w5.heap.size := xb5.lt
  have c0a : ∀ o, (w5.alloc o).cell? ⟨w.heap.size, 0, none⟩ = some (.int .i64 no) := fun o => (xb5.alloc o).at_ rfl
  have c1a : ∀ o, (w5.alloc o).cell? ⟨w.heap.size, 1, none⟩ = some (.slice A ks.length cap) := fun o => (xb5.alloc o).at_ rfl
  have c2a : ∀ o, (w5.alloc o).cell? ⟨w.heap.size, 2, none⟩ = some (.bool hd) := fun o => (xb5.alloc o).at_ rfl
  obtain ⟨w6, hw6⟩ : ∃ w6, w5.alloc (.cells #[.int .i64 no, .slice A5 ks.length k5, .bool hd] 54) = w6 := ⟨_, rfl⟩
  have b6 : Below w5.heap.size w5 w6 := by rw [← hw6]; exact (Below.refl _ _).alloc (Nat.le_refl _) _
  have B6 := B5.trans (b6.mono B5.size)
  have p6 : Blk w6 w5.heap.size 54 #[.int .i64 no, .slice A5 ks.length k5, .bool hd] := by rw [← hw6]; exact Blk.new _ _ _
  have x6 : Blk w6 w.heap.size 51 #[.int .i64 no, .slice A ks.length cap, .bool hd] := xb5.below b6 xb5.lt
  have RR := rright_calls no ks hd A cap w6 (hR.below B6) hcap hc63
  rw [hr] at RR
  have HW6 := Lib.hid hw6
  clear hw6 xb4 xb5 b5 B4 B5
  go_wp2_with fail
  rw [HW6.out]
  refine RR.mono ?_
  clear RR HW6
  rintro e w7 ⟨rfl, b7⟩
  have B7 := B6.trans (b7.mono B6.size)
  have p7 := p6.below b7 p6.lt
  have x7 := x6.below b7 x6.lt
  have c0 : w7.cell? ⟨w.heap.size, 0, none⟩ = some (.int .i64 no) := x7.at_ rfl
  have c1 : w7.cell? ⟨w.heap.size, 1, none⟩ = some (.slice A ks.length cap) := x7.at_ rfl
  have c2 : w7.cell? ⟨w.heap.size, 2, none⟩ = some (.bool hd) := x7.at_ rfl
  have d0 : w7.cell? ⟨w5.heap.size, 0, none⟩ = some (.int .i64 no) := p7.at_ rfl
  have d1 : w7.cell? ⟨w5.heap.size, 1, none⟩ = some (.slice A5 ks.length k5) := p7.at_ rfl
  have d2 : w7.cell? ⟨w5.heap.size, 2, none⟩ = some (.bool hd) := p7.at_ rfl
  have SC := same_calls no ks hd A5 A k5 cap w7 ((r5.below b6).below b7) (hR.below B7) (by omega)
  clear p7 x7 p6 x6 b6 B6 r5 h5 h5' c0a c1a c2a hR
  go_wp2_with fail
  refine SC.mono ?_
  clear SC c0 c1 c2 d0 d1 d2
  rintro e w7b ⟨rfl, b7b⟩
  replace B7 := B7.trans (b7b.mono B7.size)
  clear b7 b7b
  have PC := parse_calls s (by omega) _ (hS.below B7)
  have e2 : parE s = 2 := by unfold parE; rw [hp]; rfl
  unfold RetParse at PC
  rw [e2] at PC
  generalize parL s = y at *
  clear hp e2
  go_wp2_with fail
  refine PC.mono ?_
  clear PC
  rintro e w8 ⟨A8, k8, rfl, -, -, -, b8⟩
  have B8 := B7.trans (b8.mono B7.size)
  go_wp2_with fail
  go_ret
  exact ⟨rfl, B8.alloc B8.size _⟩
set_option maxHeartbeats 1600000 in
theorem purgeBack_r_some (no : Int) (ks : List Txt) (hd : Bool) (A : Option Addr) (cap : Nat) (s : Txt) (w : World) (hS : Std w) (hR : RS w A ks) (hcap : ks.length ≤ cap) (hc63 : cap ≤ 9223372036854775807) (hg : greatB ks = false) (hs : s.length ≤ 900) (hr : rightB ⟨no, ks, hd⟩ = true) (y : Ln) (hp : parP s = some y) :
    Calls Tryd.prog 8 #[.agg #[.int .i64 no, .slice A ks.length cap, .bool hd], .string (bstr s)] w fun e w' => e = .returned (.bool true) ∧ Below w.heap.size w w' := by
  have xb := Blk.new w 51 #[.int .i64 no, .slice A ks.length cap, .bool hd]
  have B1 : Below w.heap.size w (w.alloc (.cells #[.int .i64 no, .slice A ks.length cap, .bool hd] 51)) := (Below.refl _ _).alloc (Nat.le_refl _) _
  have AW := awake_calls _ (hS.below B1)
  have hz := bstr_size s
  have d9 : decide (900 < (s.length : Int)) = false := decide_eq_false (by omega)
  obtain ⟨hk1, hk2⟩ := great_no hg
  go_enter Tryd.func8, Tryd.ntmps8
  go_wp2_with fail
  generalize w.alloc (.cells #[.int .i64 no, .slice A ks.length cap, .bool hd] 51) = w1 at *
  refine AW.mono ?_
  clear AW
  rintro e w2 ⟨rfl, b2⟩
  have xb2 := xb.below b2 xb.lt
  have B2 := B1.trans (b2.mono B1.size)
  have c1 : w2.cell? ⟨w.heap.size, 1, none⟩ = some (.slice A ks.length cap) := xb2.at_ rfl
  have c0 : w2.cell? ⟨w.heap.size, 0, none⟩ = some (.int .i64 no) := xb2.at_ rfl
  have c2 : w2.cell? ⟨w.heap.size, 2, none⟩ = some (.bool hd) := xb2.at_ rfl
  have GR := rgreat_calls ks A cap w2 (hR.below B2) (by omega) (fun t ht => by have := hk2 t ht; omega)
  rw [hg] at GR
  have OW := own_calls no ks hd A cap w2 (hR.below B2) (by omega)
  clear b2 B1 xb
  go_wp2_with fail
  refine GR.mono ?_
  clear GR
  rintro e w3 ⟨rfl, rfl⟩
  go_wp2_with fail
  refine OW.mono ?_
  clear OW
  rintro e w3 ⟨A3, k3, rfl, o3, b3⟩
  have B3 := B2.trans (b3.mono B2.size)
  have xb3 := xb2.below b3 xb2.lt
  have hc3 : ks.length ≤ k3 ∧ k3 ≤ 9223372036854775807 := by
    obtain ⟨A', c', e', h1', h2'⟩ := own_form o3
    injection e' with _ _ e3
    subst e3
    exact ⟨h1', by unfold maxLen at h2'; omega⟩
  have TC := text_calls no ks hd A3 k3 w3 (hS.below B3) (RV.of_own o3) hc3.1 hc3.2
  have ht := text_short hr hg
  obtain ⟨p1, p2⟩ := par_text hr
  rw [show textT ⟨no, ks, hd⟩ = textL ⟨no, ks, hd⟩ by unfold textT; rw [if_pos hr], show textE ⟨no, ks, hd⟩ = 0 by unfold textE; rw [if_pos hr]] at TC
  generalize textL ⟨no, ks, hd⟩ = tt at *
  clear o3 hc3 b3 B2 xb2 c0 c1 c2
  go_wp2_with fail
  refine TC.mono ?_
  clear TC
  rintro e w4 ⟨rfl, b4⟩
  have B4 := B3.trans (b4.mono B3.size)
  have xb4 := xb3.below b4 xb3.lt
  have c0 : w4.cell? ⟨w.heap.size, 0, none⟩ = some (.int .i64 no) := xb4.at_ rfl
  have c1 : w4.cell? ⟨w.heap.size, 1, none⟩ = some (.slice A ks.length cap) := xb4.at_ rfl
  have c2 : w4.cell? ⟨w.heap.size, 2, none⟩ = some (.bool hd) := xb4.at_ rfl
  clear b4 B3 xb3
  have PT := parse_calls tt ht w4 (hS.below B4)
  unfold RetParse at PT
  rw [p1, p2] at PT
  clear p1 p2 ht c0 c1 c2
  go_wp2_with fail
  refine PT.mono ?_
  clear PT
  rintro e w5 ⟨A5, k5, rfl, r5, h5, h5', b5⟩
  have B5 := B4.trans (b5.mono B4.size)
  have xb5 := xb4.below b5 xb4.lt
  replace r5 : RS w5 A5 ks := r5
  replace h5 : ks.length ≤ k5 := h5
  have hne : w.heap.size < w5.heap.size := xb5.lt
  have c0a : ∀ o, (w5.alloc o).cell? ⟨w.heap.size, 0, none⟩ = some (.int .i64 no) := fun o => (xb5.alloc o).at_ rfl
  have c1a : ∀ o, (w5.alloc o).cell? ⟨w.heap.size, 1, none⟩ = some (.slice A ks.length cap) := fun o => (xb5.alloc o).at_ rfl
  have c2a : ∀ o, (w5.alloc o).cell? ⟨w.heap.size, 2, none⟩ = some (.bool hd) := fun o => (xb5.alloc o).at_ rfl
  obtain ⟨w6, hw6⟩ : ∃ w6, w5.alloc (.cells #[.int .i64 no, .slice A5 ks.length k5, .bool hd] 54) = w6 := ⟨_, rfl⟩
  have b6 : Below w5.heap.size w5 w6 := by rw [← hw6]; exact (Below.refl _ _).alloc (Nat.le_refl _) _
  have B6 := B5.trans (b6.mono B5.size)
  have p6 : Blk w6 w5.heap.size 54 #[.int .i64 no, .slice A5 ks.length k5, .bool hd] := by rw [← hw6]; exact Blk.new _ _ _
  have x6 : Blk w6 w.heap.size 51 #[.int .i64 no, .slice A ks.length cap, .bool hd] := xb5.below b6 xb5.lt
  have RR := rright_calls no ks hd A cap w6 (hR.below B6) hcap hc63
  rw [hr] at RR
  have HW6 := Lib.hid hw6
  clear hw6 xb4 xb5 b5 B4 B5
  go_wp2_with fail
  rw [HW6.out]
  refine RR.mono ?_
  clear RR HW6
  rintro e w7 ⟨rfl, b7⟩
  have B7 := B6.trans (b7.mono B6.size)
  have p7 := p6.below b7 p6.lt
  have x7 := x6.below b7 x6.lt
  have c0 : w7.cell? ⟨w.heap.size, 0, none⟩ = some (.int .i64 no) := x7.at_ rfl
  have c1 : w7.cell? ⟨w.heap.size, 1, none⟩ = some (.slice A ks.length cap) := x7.at_ rfl
  have c2 : w7.cell? ⟨w.heap.size, 2, none⟩ = some (.bool hd) := x7.at_ rfl
  have d0 : w7.cell? ⟨w5.heap.size, 0, none⟩ = some (.int .i64 no) := p7.at_ rfl
  have d1 : w7.cell? ⟨w5.heap.size, 1, none⟩ = some (.slice A5 ks.length k5) := p7.at_ rfl
  have d2 : w7.cell? ⟨w5.heap.size, 2, none⟩ = some (.bool hd) := p7.at_ rfl
  have SC := same_calls no ks hd A5 A k5 cap w7 ((r5.below b6).below b7) (hR.below B7) (by omega)
  clear p7 x7 p6 x6 b6 B6 r5 h5 h5' c0a c1a c2a hR
  go_wp2_with fail
  refine SC.mono ?_
  clear SC c0 c1 c2 d0 d1 d2
  rintro e w7b ⟨rfl, b7b⟩
  replace B7 := B7.trans (b7b.mono B7.size)
  clear b7 b7b
  obtain ⟨e1, e2, e3, e4⟩ := par_back hp
  have PC := parse_calls s (by omega) _ (hS.below B7)
  unfold RetParse at PC
  rw [e3, e4] at PC
  have hq : ((bstr s).toList == (bstr s).toList) = true := beq_self_eq_true _
  clear e3 e4 hp
  obtain ⟨yn, yk, yh⟩ := y
  have TC : ∀ (A8 : Option Addr) (k8 : Nat) (w9 : World), Std w9 → RS w9 A8 yk → yk.length ≤ k8 → k8 ≤ 9223372036854775807 → Calls Tryd.prog 27 #[.agg #[.int .i64 yn, .slice A8 yk.length k8, .bool yh]] w9 fun e w' => e = .returned (.tuple #[.string (bstr s), .int .i64 0]) ∧ Below w9.heap.size w9 w' := by
    intro A8 k8 w9 h1 h2 h3 h4
    have := text_calls yn yk yh A8 k8 w9 h1 h2 h3 h4
    rw [e1, e2] at this
    exact this
  clear e1 e2
  go_wp2_with fail
  refine PC.mono ?_
  clear PC
  rintro e w8 ⟨A8, k8, rfl, r8, h8, h8', b8⟩
  have B8 := B7.trans (b8.mono B7.size)
  replace r8 : RS w8 A8 yk := r8
  replace h8 : yk.length ≤ k8 := h8
  have b9 : ∀ o, Below w8.heap.size w8 (w8.alloc o) := fun o => (Below.refl _ _).alloc (Nat.le_refl _) _
  have B9 : ∀ o, Below w.heap.size w (w8.alloc o) := fun o => B8.trans ((b9 o).mono B8.size)
  have TD := fun o => TC A8 k8 (w8.alloc o) (hS.below (B9 o)) (r8.below (b9 o)) h8 h8'
  clear TC r8 h8 h8' b8 b9
  go_wp2_with fail
  refine (TD _).mono ?_
  clear TD
  rintro e w10 ⟨rfl, b10⟩
  go_wp2_with fail
  go_ret
  exact ⟨rfl, (B9 _).trans (b10.mono (B9 _).size)⟩
set_option maxHeartbeats 1600000 in
theorem purgeBack_n_none (no : Int) (ks : List Txt) (hd : Bool) (A : Option Addr) (cap : Nat) (s : Txt) (w : World) (hS : Std w) (hR : RS w A ks) (hcap : ks.length ≤ cap) (hc63 : cap ≤ 9223372036854775807) (hg : greatB ks = false) (hs : s.length ≤ 900) (hr : rightB ⟨no, ks, hd⟩ = false) (hp : parP s = none) :
    Calls Tryd.prog 8 #[.agg #[.int .i64 no, .slice A ks.length cap, .bool hd], .string (bstr s)] w fun e w' => e = .returned (.bool true) ∧ Below w.heap.size w w' := by
  have xb := Blk.new w 51 #[.int .i64 no, .slice A ks.length cap, .bool hd]
  have B1 : Below w.heap.size w (w.alloc (.cells #[.int .i64 no, .slice A ks.length cap, .bool hd] 51)) := (Below.refl _ _).alloc (Nat.le_refl _) _
  have AW := awake_calls _ (hS.below B1)
  have hz := bstr_size s
  have d9 : decide (900 < (s.length : Int)) = false := decide_eq_false (by omega)
  obtain ⟨hk1, hk2⟩ := great_no hg
  go_enter Tryd.func8, Tryd.ntmps8
  go_wp2_with fail
  generalize w.alloc (.cells #[.int .i64 no, .slice A ks.length cap, .bool hd] 51) = w1 at *
  refine AW.mono ?_
  clear AW
  rintro e w2 ⟨rfl, b2⟩
  have xb2 := xb.below b2 xb.lt
  have B2 := B1.trans (b2.mono B1.size)
  have c1 : w2.cell? ⟨w.heap.size, 1, none⟩ = some (.slice A ks.length cap) := xb2.at_ rfl
  have c0 : w2.cell? ⟨w.heap.size, 0, none⟩ = some (.int .i64 no) := xb2.at_ rfl
  have c2 : w2.cell? ⟨w.heap.size, 2, none⟩ = some (.bool hd) := xb2.at_ rfl
  have GR := rgreat_calls ks A cap w2 (hR.below B2) (by omega) (fun t ht => by have := hk2 t ht; omega)
  rw [hg] at GR
  have OW := own_calls no ks hd A cap w2 (hR.below B2) (by omega)
  clear b2 B1 xb
  go_wp2_with fail
  refine GR.mono ?_
  clear GR
  rintro e w3 ⟨rfl, rfl⟩
  go_wp2_with fail
  refine OW.mono ?_
  clear OW
  rintro e w3 ⟨A3, k3, rfl, o3, b3⟩
  have B3 := B2.trans (b3.mono B2.size)
  have xb3 := xb2.below b3 xb2.lt
  have hc3 : ks.length ≤ k3 ∧ k3 ≤ 9223372036854775807 := by
    obtain ⟨A', c', e', h1', h2'⟩ := own_form o3
    injection e' with _ _ e3
    subst e3
    exact ⟨h1', by unfold maxLen at h2'; omega⟩
  have TC := text_calls no ks hd A3 k3 w3 (hS.below B3) (RV.of_own o3) hc3.1 hc3.2
  rw [show textT ⟨no, ks, hd⟩ = [] by unfold textT; rw [if_neg (by rw [hr]; decide)], show textE ⟨no, ks, hd⟩ = 1 by unfold textE; rw [if_neg (by rw [hr]; decide)], show bstr [] = ⟨#[]⟩ from rfl] at TC
  clear o3 hc3 b3 B2 xb2 c0 c1 c2
  go_wp2_with fail
  refine TC.mono ?_
  clear TC
  rintro e w4 ⟨rfl, b4⟩
  have B4 := B3.trans (b4.mono B3.size)
  have xb4 := xb3.below b4 xb3.lt
  have c0 : w4.cell? ⟨w.heap.size, 0, none⟩ = some (.int .i64 no) := xb4.at_ rfl
  have c1 : w4.cell? ⟨w.heap.size, 1, none⟩ = some (.slice A ks.length cap) := xb4.at_ rfl
  have c2 : w4.cell? ⟨w.heap.size, 2, none⟩ = some (.bool hd) := xb4.at_ rfl
  clear b4 B3 xb3
  have PT := parse_calls [] (by decide) w4 (hS.below B4)
  unfold RetParse at PT
  rw [par_nil, show bstr [] = ⟨#[]⟩ from rfl] at PT
  generalize parL [] = z at *
  clear c0 c1 c2
  go_wp2_with fail
  refine PT.mono ?_
  clear PT
  rintro e w5 ⟨A5, k5, rfl, -, -, -, b5⟩
  have B5 := B4.trans (b5.mono B4.size)
  have xb5 := xb4.below b5 xb4.lt
  have c0a : ∀ o, (w5.alloc o).cell? ⟨w.heap.size, 0, none⟩ = some (.int .i64 no) := fun o => (xb5.alloc o).at_ rfl
  have c1a : ∀ o, (w5.alloc o).cell? ⟨w.heap.size, 1, none⟩ = some (.slice A ks.length cap) := fun o => (xb5.alloc o).at_ rfl
  have c2a : ∀ o, (w5.alloc o).cell? ⟨w.heap.size, 2, none⟩ = some (.bool hd) := fun o => (xb5.alloc o).at_ rfl
  have B6 : ∀ o, Below w.heap.size w (w5.alloc o) := fun o => B5.alloc B5.size o
  have RR := fun o => rright_calls no ks hd A cap (w5.alloc o) (hR.below (B6 o)) hcap hc63
  rw [hr] at RR
  clear xb4 xb5 b5 B4 hR
  go_wp2_with fail
  refine (RR _).mono ?_
  clear RR c0a c1a c2a
  rintro e w7 ⟨rfl, b7⟩
  have B7 := (B6 _).trans (b7.mono (B6 _).size)
  clear b7 B6 B5
  have PC := parse_calls s (by omega) _ (hS.below B7)
  have e2 : parE s = 2 := by unfold parE; rw [hp]; rfl
  unfold RetParse at PC
  rw [e2] at PC
  generalize parL s = y at *
  clear hp e2
  go_wp2_with fail
  refine PC.mono ?_
  clear PC
  rintro e w8 ⟨A8, k8, rfl, -, -, -, b8⟩
  have B8 := B7.trans (b8.mono B7.size)
  go_wp2_with fail
  go_ret
  exact ⟨rfl, B8.alloc B8.size _⟩
set_option maxHeartbeats 1600000 in
theorem purgeBack_n_some (no : Int) (ks : List Txt) (hd : Bool) (A : Option Addr) (cap : Nat) (s : Txt) (w : World) (hS : Std w) (hR : RS w A ks) (hcap : ks.length ≤ cap) (hc63 : cap ≤ 9223372036854775807) (hg : greatB ks = false) (hs : s.length ≤ 900) (hr : rightB ⟨no, ks, hd⟩ = false) (y : Ln) (hp : parP s = some y) :
    Calls Tryd.prog 8 #[.agg #[.int .i64 no, .slice A ks.length cap, .bool hd], .string (bstr s)] w fun e w' => e = .returned (.bool true) ∧ Below w.heap.size w w' := by
  have xb := Blk.new w 51 #[.int .i64 no, .slice A ks.length cap, .bool hd]
  have B1 : Below w.heap.size w (w.alloc (.cells #[.int .i64 no, .slice A ks.length cap, .bool hd] 51)) := (Below.refl _ _).alloc (Nat.le_refl _) _
  have AW := awake_calls _ (hS.below B1)
  have hz := bstr_size s
  have d9 : decide (900 < (s.length : Int)) = false := decide_eq_false (by omega)
  obtain ⟨hk1, hk2⟩ := great_no hg
  go_enter Tryd.func8, Tryd.ntmps8
  go_wp2_with fail
  generalize w.alloc (.cells #[.int .i64 no, .slice A ks.length cap, .bool hd] 51) = w1 at *
  refine AW.mono ?_
  clear AW
  rintro e w2 ⟨rfl, b2⟩
  have xb2 := xb.below b2 xb.lt
  have B2 := B1.trans (b2.mono B1.size)
  have c1 : w2.cell? ⟨w.heap.size, 1, none⟩ = some (.slice A ks.length cap) := xb2.at_ rfl
  have c0 : w2.cell? ⟨w.heap.size, 0, none⟩ = some (.int .i64 no) := xb2.at_ rfl
  have c2 : w2.cell? ⟨w.heap.size, 2, none⟩ = some (.bool hd) := xb2.at_ rfl
  have GR := rgreat_calls ks A cap w2 (hR.below B2) (by omega) (fun t ht => by have := hk2 t ht; omega)
  rw [hg] at GR
  have OW := own_calls no ks hd A cap w2 (hR.below B2) (by omega)
  clear b2 B1 xb
  go_wp2_with fail
  refine GR.mono ?_
  clear GR
  rintro e w3 ⟨rfl, rfl⟩
  go_wp2_with fail
  refine OW.mono ?_
  clear OW
  rintro e w3 ⟨A3, k3, rfl, o3, b3⟩
  have B3 := B2.trans (b3.mono B2.size)
  have xb3 := xb2.below b3 xb2.lt
  have hc3 : ks.length ≤ k3 ∧ k3 ≤ 9223372036854775807 := by
    obtain ⟨A', c', e', h1', h2'⟩ := own_form o3
    injection e' with _ _ e3
    subst e3
    exact ⟨h1', by unfold maxLen at h2'; omega⟩
  have TC := text_calls no ks hd A3 k3 w3 (hS.below B3) (RV.of_own o3) hc3.1 hc3.2
  rw [show textT ⟨no, ks, hd⟩ = [] by unfold textT; rw [if_neg (by rw [hr]; decide)], show textE ⟨no, ks, hd⟩ = 1 by unfold textE; rw [if_neg (by rw [hr]; decide)], show bstr [] = ⟨#[]⟩ from rfl] at TC
  clear o3 hc3 b3 B2 xb2 c0 c1 c2
  go_wp2_with fail
  refine TC.mono ?_
  clear TC
  rintro e w4 ⟨rfl, b4⟩
  have B4 := B3.trans (b4.mono B3.size)
  have xb4 := xb3.below b4 xb3.lt
  have c0 : w4.cell? ⟨w.heap.size, 0, none⟩ = some (.int .i64 no) := xb4.at_ rfl
  have c1 : w4.cell? ⟨w.heap.size, 1, none⟩ = some (.slice A ks.length cap) := xb4.at_ rfl
  have c2 : w4.cell? ⟨w.heap.size, 2, none⟩ = some (.bool hd) := xb4.at_ rfl
  clear b4 B3 xb3
  have PT := parse_calls [] (by decide) w4 (hS.below B4)
  unfold RetParse at PT
  rw [par_nil, show bstr [] = ⟨#[]⟩ from rfl] at PT
  generalize parL [] = z at *
  clear c0 c1 c2
  go_wp2_with fail
  refine PT.mono ?_
  clear PT
  rintro e w5 ⟨A5, k5, rfl, -, -, -, b5⟩
  have B5 := B4.trans (b5.mono B4.size)
  have xb5 := xb4.below b5 xb4.lt
  have c0a : ∀ o, (w5.alloc o).cell? ⟨w.heap.size, 0, none⟩ = some (.int .i64 no) := fun o => (xb5.alloc o).at_ rfl
  have c1a : ∀ o, (w5.alloc o).cell? ⟨w.heap.size, 1, none⟩ = some (.slice A ks.length cap) := fun o => (xb5.alloc o).at_ rfl
  have c2a : ∀ o, (w5.alloc o).cell? ⟨w.heap.size, 2, none⟩ = some (.bool hd) := fun o => (xb5.alloc o).at_ rfl
  have B6 : ∀ o, Below w.heap.size w (w5.alloc o) := fun o => B5.alloc B5.size o
  have RR := fun o => rright_calls no ks hd A cap (w5.alloc o) (hR.below (B6 o)) hcap hc63
  rw [hr] at RR
  clear xb4 xb5 b5 B4 hR
  go_wp2_with fail
  refine (RR _).mono ?_
  clear RR c0a c1a c2a
  rintro e w7 ⟨rfl, b7⟩
  have B7 := (B6 _).trans (b7.mono (B6 _).size)
  clear b7 B6 B5
  obtain ⟨e1, e2, e3, e4⟩ := par_back hp
  have PC := parse_calls s (by omega) _ (hS.below B7)
  unfold RetParse at PC
  rw [e3, e4] at PC
  have hq : ((bstr s).toList == (bstr s).toList) = true := beq_self_eq_true _
  clear e3 e4 hp
  obtain ⟨yn, yk, yh⟩ := y
  have TC : ∀ (A8 : Option Addr) (k8 : Nat) (w9 : World), Std w9 → RS w9 A8 yk → yk.length ≤ k8 → k8 ≤ 9223372036854775807 → Calls Tryd.prog 27 #[.agg #[.int .i64 yn, .slice A8 yk.length k8, .bool yh]] w9 fun e w' => e = .returned (.tuple #[.string (bstr s), .int .i64 0]) ∧ Below w9.heap.size w9 w' := by
    intro A8 k8 w9 h1 h2 h3 h4
    have := text_calls yn yk yh A8 k8 w9 h1 h2 h3 h4
    rw [e1, e2] at this
    exact this
  clear e1 e2
  go_wp2_with fail
  refine PC.mono ?_
  clear PC
  rintro e w8 ⟨A8, k8, rfl, r8, h8, h8', b8⟩
  have B8 := B7.trans (b8.mono B7.size)
  replace r8 : RS w8 A8 yk := r8
  replace h8 : yk.length ≤ k8 := h8
  have b9 : ∀ o, Below w8.heap.size w8 (w8.alloc o) := fun o => (Below.refl _ _).alloc (Nat.le_refl _) _
  have B9 : ∀ o, Below w.heap.size w (w8.alloc o) := fun o => B8.trans ((b9 o).mono B8.size)
  have TD := fun o => TC A8 k8 (w8.alloc o) (hS.below (B9 o)) (r8.below (b9 o)) h8 h8'
  clear TC r8 h8 h8' b8 b9
  go_wp2_with fail
  refine (TD _).mono ?_
  clear TD
  rintro e w10 ⟨rfl, b10⟩
  go_wp2_with fail
  go_ret
  exact ⟨rfl, (B9 _).trans (b10.mono (B9 _).size)⟩
theorem purgeBack_walk (x : LnR) (s : ByteArray) (w : World) (hS : Std w) (hx : LineOK w x) : Calls Tryd.prog 8 #[.agg x.cells.toArray, .string s] w fun e w' => e = .returned (.bool true) ∧ Below w.heap.size w w' := by
  rw [← bstr_back s]
  generalize s.data.toList = t
  obtain ⟨no, A, cap, ks, hd⟩ := x
  have h1 : KeysOK w A ks cap := hx.ks
  cases hg : (greatB ks || decide (900 < t.length)) with
  | true => exact purgeBack_off no ks hd A cap t w hS h1.rs (by have := h1.le; have := h1.cap; omega) h1.small hg
  | false =>
    rw [Bool.or_eq_false_iff, decide_eq_false_iff_not] at hg
    have hl : t.length ≤ 900 := by omega
    cases hr : rightB ⟨no, ks, hd⟩ <;> cases hp : parP t
    · exact purgeBack_n_none no ks hd A cap t w hS h1.rs h1.le h1.cap hg.1 hl hr hp
    · exact purgeBack_n_some no ks hd A cap t w hS h1.rs h1.le h1.cap hg.1 hl hr _ hp
    · exact purgeBack_r_none no ks hd A cap t w hS h1.rs h1.le h1.cap hg.1 hl hr hp
    · exact purgeBack_r_some no ks hd A cap t w hS h1.rs h1.le h1.cap hg.1 hl hr _ hp
end Go.Proofs.YtdcjljlppeighaaDoor
