/-
  Walks: the statements' own and same; the document's Same and Great.
-/
import Derived.Test.YtdcjljlppeighaaDoorPurgeAwake
namespace Go.Proofs.YtdcjljlppeighaaDoor
open Go.RowKit PurgeP

theorem rsame_calls (ks : List Txt) (n : Nat) (hn : ks.length = n) (A B : Option Addr) (ca cb : Nat) (w : World) (hA : RS w A ks) (hB : RS w B ks) (hl : n ≤ 9223372036854775807) :
    Calls Tryd.prog 54 #[.slice A n ca, .slice B n cb] w fun e w' => e = .returned (.bool true) ∧ Below w.heap.size w w' := by
  subst hn
  have dn : ((ks.length : Int) != (ks.length : Int)) = false := by simp
  go_enter Tryd.func54, Tryd.ntmps54
  go_wp2
  go_loopw [5] (fun i wr => ∃ k : Nat, k ≤ ks.length ∧ i = .int .i64 k ∧ Below w.heap.size w wr) (fun i _ => ks.length - (intOf i).toNat)
  case atStart => exact ⟨0, by omega, rfl, Below.refl _ _⟩
  case round =>
    obtain ⟨k, hk, rfl, bel⟩ := hrel
    by_cases hlt : k < ks.length
    · have hdec : decide ((k : Int) < (ks.length : Int)) = true := decide_eq_true (by omega)
      have hdec' : decide (k < ks.length) = true := decide_eq_true hlt
      have hkI : (k : Int) < (ks.length : Int) := by omega
      obtain ⟨b, off, rfl, hb, hc⟩ := (hA.below bel).at_ hlt
      obtain ⟨b2, off2, rfl, hb2, hc2⟩ := (hB.below bel).at_ hlt
      generalize ks.getD k [] = c at *
      have hq : ((bstr c).toList == (bstr c).toList) = true := beq_self_eq_true _
      have hq' : (!((bstr c).toList == (bstr c).toList)) = false := by rw [hq]; rfl
      have HB : Hid (∀ q, Below w.heap.size w (wr.drewN q)) := fun q => ⟨bel.os, bel.tape, bel.output, bel.size, bel.block⟩
      go_wp2_with fail
      go_quiet (fail)
      go_wp2
      go_roundw
      case rel => exact ⟨k + 1, by omega, by go_num, HB.out _⟩
      case measure => simp [intOf]; omega
    · obtain rfl : k = ks.length := by omega
      go_wp2
      go_ret
      exact ⟨rfl, bel⟩
theorem same_calls (no : Int) (ks : List Txt) (hd : Bool) (A B : Option Addr) (ca cb : Nat) (w : World) (hA : RS w A ks) (hB : RS w B ks) (hl : ks.length ≤ 9223372036854775807) :
    Calls Tryd.prog 32 #[.agg #[.int .i64 no, .slice A ks.length ca, .bool hd], .agg #[.int .i64 no, .slice B ks.length cb, .bool hd]] w fun e w' => e = .returned (.bool true) ∧ Below w.heap.size w w' := by
  have hs1 : (w.alloc (.cells #[.int .i64 no, .slice A ks.length ca, .bool hd] 54)).heap.size = w.heap.size + 1 := by simp
  have xb := (Blk.new w 54 #[.int .i64 no, .slice A ks.length ca, .bool hd]).alloc (.cells #[.int .i64 no, .slice B ks.length cb, .bool hd] 51)
  have yb := Blk.new (w.alloc (.cells #[.int .i64 no, .slice A ks.length ca, .bool hd] 54)) 51 #[.int .i64 no, .slice B ks.length cb, .bool hd]
  rw [hs1] at yb
  have B1 : Below w.heap.size w ((w.alloc (.cells #[.int .i64 no, .slice A ks.length ca, .bool hd] 54)).alloc (.cells #[.int .i64 no, .slice B ks.length cb, .bool hd] 51)) := ((Below.refl _ _).alloc (Nat.le_refl _) _).alloc (by simp) _
  have SC := rsame_calls ks ks.length rfl A B ca cb _ (hA.below B1) (hB.below B1) hl
  have hh : (hd == hd) = true := beq_self_eq_true _
  clear hs1 hA hB
  go_enter Tryd.func32, Tryd.ntmps32
  go_wp2_with fail
  refine SC.mono ?_
  clear SC
  rintro e w2 ⟨rfl, b2⟩
  go_wp2
  go_ret
  exact ⟨rfl, B1.trans (b2.mono B1.size)⟩
/-- All texts' lengths, and one for each. -/
def sumN (l : List Txt) : Nat := (l.map fun t => 1 + t.length).sum
def greatB (l : List Txt) : Bool := decide (900 < sumN l)
theorem sumN_snoc (l : List Txt) (t : Txt) : sumN (l ++ [t]) = sumN l + 1 + t.length := by simp [sumN]; omega
theorem sumN_take (l : List Txt) (k : Nat) : sumN (l.take k) ≤ sumN l := by
  have h : ∀ a b : List Txt, sumN (a ++ b) = sumN a + sumN b := fun a b => by simp [sumN]
  have := congrArg sumN (List.take_append_drop k l)
  rw [h] at this
  omega
theorem sumN_len (l : List Txt) : l.length ≤ sumN l ∧ ∀ t ∈ l, t.length < sumN l := by
  induction l with
  | nil => simp [sumN]
  | cons a l ih =>
    have e : sumN (a :: l) = 1 + a.length + sumN l := by simp [sumN]
    rw [e]
    refine ⟨by simp; omega, fun t ht => ?_⟩
    rcases List.mem_cons.1 ht with rfl | ht
    · omega
    · have := ih.2 t ht; omega
theorem rgreat_calls (ks : List Txt) (A : Option Addr) (cap : Nat) (w : World) (hR : RS w A ks) (hl : ks.length ≤ 9223372036854775807) (hk : ∀ t ∈ ks, t.length ≤ 140737488351232) :
    Calls Tryd.prog 21 #[.slice A ks.length cap] w fun e w' => e = .returned (.bool (greatB ks)) ∧ w = w' := by
  go_enter Tryd.func21, Tryd.ntmps21
  go_wp2
  go_loop [3, 4] (fun n i => ∃ k : Nat, k ≤ ks.length ∧ i = .int .i64 (k : Int) ∧ n = .int .i64 ((sumN (ks.take k) : Nat) : Int) ∧ sumN (ks.take k) ≤ 140737488352253) (fun _ i => ks.length - (intOf i).toNat)
  case atStart => exact ⟨0, by omega, rfl, rfl, by simp [sumN]⟩
  case round =>
    obtain ⟨k, hkk, rfl, rfl, hsn⟩ := hrel
    by_cases hlt : k < ks.length
    · have hdec : decide ((k : Int) < (ks.length : Int)) = true := decide_eq_true (by omega)
      have hdec' : decide (k < ks.length) = true := decide_eq_true hlt
      have hst := sumN_take ks k
      by_cases h9 : sumN (ks.take k) ≤ 900
      · have d9 : decide (((sumN (ks.take k) : Nat) : Int) ≤ 900) = true := decide_eq_true (by omega)
        obtain ⟨b, off, rfl, hb, hc⟩ := hR.at_ hlt
        have hm : ks.getD k [] ∈ ks := by rw [List.getD_eq_getElem?_getD, List.getElem?_eq_getElem hlt]; exact List.getElem_mem _
        have hcl := hk _ hm
        have HS : Hid (sumN (ks.take (k + 1)) = sumN (ks.take k) + 1 + (ks.getD k []).length) := by
          show _ = _
          rw [List.take_succ_eq_append_getElem hlt, sumN_snoc, List.getD_eq_getElem?_getD, List.getElem?_eq_getElem hlt, Option.getD_some]
        generalize ks.getD k [] = c at *
        have hz := bstr_size c
        generalize sumN (ks.take k) = sn at *
        clear hm
        go_wp2
        go_round
        case rel => exact ⟨k + 1, by omega, by go_num, by rw [HS.out]; go_num, by rw [HS.out]; omega⟩
        case measure => simp [intOf]; omega
      · have d9 : decide (((sumN (ks.take k) : Nat) : Int) ≤ 900) = false := decide_eq_false (by omega)
        have d10 : decide (900 < ((sumN (ks.take k) : Nat) : Int)) = true := decide_eq_true (by omega)
        have HG : Hid (greatB ks = true) := decide_eq_true (by omega)
        generalize sumN (ks.take k) = sn at *
        clear h9 hst
        go_wp2
        go_ret
        exact ⟨by rw [HG.out]; rfl, rfl⟩
    · obtain rfl : k = ks.length := by omega
      have HG : Hid (greatB ks = decide (900 < ((sumN (ks.take ks.length) : Nat) : Int))) := by
        show _ = _
        rw [List.take_length]
        unfold greatB
        rw [Bool.eq_iff_iff, decide_eq_true_eq, decide_eq_true_eq]
        omega
      generalize sumN (ks.take ks.length) = sn at *
      go_wp2
      go_ret
      exact ⟨by rw [HG.out]; rfl, rfl⟩
theorem great_no {ks : List Txt} (h : greatB ks = false) : ks.length ≤ 900 ∧ ∀ t ∈ ks, t.length ≤ 900 := by
  have := sumN_len ks
  unfold greatB at h
  rw [decide_eq_false_iff_not] at h
  exact ⟨by omega, fun t ht => by have := this.2 t ht; omega⟩
set_option maxHeartbeats 1600000 in
set_option maxRecDepth 100000 in
theorem own_calls (no : Int) (ks : List Txt) (hd : Bool) (A : Option Addr) (cap : Nat) (w : World) (hR : RS w A ks) (hn : ks.length ≤ 1000000) :
    Calls Tryd.prog 28 #[.agg #[.int .i64 no, .slice A ks.length cap, .bool hd]] w (RetCopy w no ks hd) := by
  have hs1 : (w.alloc (.cells #[.int .i64 no, .slice A ks.length cap, .bool hd] 51)).heap.size = w.heap.size + 1 := by simp
  have cb := (Blk.new w 51 #[.int .i64 no, .slice A ks.length cap, .bool hd]).alloc (.cells #[.int .i64 0, .slice none 0 0, .bool false] 54)
  have ob := Blk.new (w.alloc (.cells #[.int .i64 no, .slice A ks.length cap, .bool hd] 51)) 54 #[.int .i64 0, .slice none 0 0, .bool false]
  rw [hs1] at ob
  have B1 : Below w.heap.size w ((w.alloc (.cells #[.int .i64 no, .slice A ks.length cap, .bool hd] 51)).alloc (.cells #[.int .i64 0, .slice none 0 0, .bool false] 54)) := ((Below.refl _ _).alloc (Nat.le_refl _) _).alloc (by simp) _
  clear hs1
  go_enter Tryd.func28, Tryd.ntmps28
  go_wp2_with fail
  have hR1 := hR.below B1
  have hz : ((w.alloc (.cells #[.int .i64 no, .slice A ks.length cap, .bool hd] 51)).alloc (.cells #[.int .i64 0, .slice none 0 0, .bool false] 54)).heap.size = w.heap.size + 2 := by simp
  generalize ((w.alloc (.cells #[.int .i64 no, .slice A ks.length cap, .bool hd] 51)).alloc (.cells #[.int .i64 0, .slice none 0 0, .bool false] 54)) = w1 at *
  have HZ := Lib.hid hz
  clear hz hR
  have c0 : w1.cell? ⟨w.heap.size, 0, none⟩ = some (.int .i64 no) := cb.at_ rfl
  have c1 : w1.cell? ⟨w.heap.size, 1, none⟩ = some (.slice A ks.length cap) := cb.at_ rfl
  have c2 : w1.cell? ⟨w.heap.size, 2, none⟩ = some (.bool hd) := cb.at_ rfl
  have c0a : ∀ o, (w1.alloc o).cell? ⟨w.heap.size, 0, none⟩ = some (.int .i64 no) := fun o => (cb.alloc o).at_ rfl
  have c1a : ∀ o, (w1.alloc o).cell? ⟨w.heap.size, 1, none⟩ = some (.slice A ks.length cap) := fun o => (cb.alloc o).at_ rfl
  have c2a : ∀ o, (w1.alloc o).cell? ⟨w.heap.size, 2, none⟩ = some (.bool hd) := fun o => (cb.alloc o).at_ rfl
  have hlt : w.heap.size + 1 < w1.heap.size := ob.lt
  have KB : ∀ (w4 : World), (w1.drew.alloc (.cells #[] 9)).grownBy w4 (some w1.heap.size) → ∀ k, k < w1.heap.size → w4.heap[k]? = w1.heap[k]? := fun w4 g k hk => (g.block k (by simp; omega) (fun e => by injection e with e; omega)).trans (Below.heap_alloc w1.drew _ k hk)
  have HP : Hid (∀ (w4 : World) (A4 : Option Addr) (c4 : Nat), w4.ownsRow w1.heap.size 9 1 (.slice A4 ks.length c4) ks.length (cS ks) → (w1.drew.alloc (.cells #[] 9)).grownBy w4 (some w1.heap.size) →
      RetCopy w no ks hd (.returned (.agg #[.int .i64 no, .slice A4 ks.length c4, .bool hd])) (((w4.setCell ⟨w.heap.size + 1, 0, none⟩ (.int .i64 no)).setCell ⟨w.heap.size + 1, 1, none⟩ (.slice A4 ks.length c4)).setCell ⟨w.heap.size + 1, 2, none⟩ (.bool hd))) := by
    intro w4 A4 c4 o4 g4
    have hlo : ∀ k, (Value.slice A4 ks.length c4).ownBlock = some k → w1.heap.size ≤ k := fun k hk => (o4.lt k hk).1
    have B4 : Below w.heap.size w w4 := ((B1.drew).alloc B1.size _).grown g4 (by simp; omega) (fun j hj => by injection hj with hj; omega)
    refine ⟨A4, c4, rfl, own_frame (own_mono o4 (by omega)) (fun k hk => ?_), ((B4.setCell (by simp) _).setCell (by simp) _).setCell (by simp) _⟩
    have hk2 := hlo k hk
    rw [heap_setCell_other _ _ _ _ (by simp; omega), heap_setCell_other _ _ _ _ (by simp; omega), heap_setCell_other _ _ _ _ (by simp; omega)]
  go_region_law ((refine step_append_rv (A := A) (m := ks.length) (c := cap) (v := .slice (some ⟨w1.heap.size, 0, none⟩) 0 0) (n := 0) (base := w1.heap.size) (xs := []) el_string rfl (.tmp 5) (.tmp 7) rfl rfl (own_empty w1.drew 9 1 (Nat.le_refl _)) rfl (by rw [cS_len]; omega) ((hR1.drew).alloc _) (cS_one _) (by unfold maxLen; omega) (by omega) (by simp) ?_; intro v4 w4 own4 gr4 hv4; (have own5 : w4.ownsRow w1.heap.size 9 1 v4 ks.length (cS ks) := by simpa using own4); (obtain ⟨A4, c4, hv4f, _, _⟩ := own_form own5); subst hv4f; have HF := Lib.hid (HP.out w4 A4 c4 own5 gr4); have d4 : Blk w4 w.heap.size 51 #[.int .i64 no, .slice A ks.length cap, .bool hd] := (KB w4 gr4 w.heap.size (by omega)).trans cb; have r4 : Blk w4 (w.heap.size + 1) 54 #[.int .i64 0, .slice none 0 0, .bool false] := (KB w4 gr4 (w.heap.size + 1) (by omega)).trans ob; have s0 : w4.cell? ⟨w.heap.size, 0, none⟩ = some (.int .i64 no) := d4.at_ rfl; have s1 : w4.cell? ⟨w.heap.size, 1, none⟩ = some (.slice A ks.length cap) := d4.at_ rfl; have s2 : w4.cell? ⟨w.heap.size, 2, none⟩ = some (.bool hd) := d4.at_ rfl; have r0 : w4.cell? ⟨w.heap.size + 1, 0, none⟩ = some (.int .i64 0) := r4.at_ rfl; have r1 : w4.cell? ⟨w.heap.size + 1, 1, none⟩ = some (.slice none 0 0) := r4.at_ rfl; have r2 : w4.cell? ⟨w.heap.size + 1, 2, none⟩ = some (.bool false) := r4.at_ rfl; have f0 := r4.frozen 0; have f1 := r4.frozen 1; have f2 := r4.frozen 2; clear d4 r4 own4 own5 gr4 hv4))
  all_goals
    clear HP KB
    go_wp2
    refine bodyPost_ret (v := .agg #[.int .i64 no, .slice A4 ks.length c4, .bool hd]) (by simp [results, Tryd.results28, go_sem, *]) rfl HF.out
end Go.Proofs.YtdcjljlppeighaaDoor
