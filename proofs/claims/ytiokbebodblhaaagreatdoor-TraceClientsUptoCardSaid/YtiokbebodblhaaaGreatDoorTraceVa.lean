/-
  Walks: the program's function over a client's places, ranged over by the law's own.
-/
import Derived.Test.YtiokbebodblhaaaGreatDoorTraceOf
namespace Go.Proofs.YtiokbebodblhaaaGreatDoor
open Go.RowKit TraceP
attribute [local go_sem] Row.val

/-- What the law's own variable holds so far. -/
def Got (B gb : Nat) (w : World) (out : List Int) : Prop := ∃ v, Blk w gb 64 #[v] ∧ Ints B w v out
theorem fl_iC (l : List Int) : fl iC l = l.map fun i => Value.int .i64 i := by
  unfold fl iC
  induction l with
  | nil => rfl
  | cons a l ih => rw [List.flatMap_cons, ih]; rfl
set_option maxRecDepth 100000 in
set_option maxHeartbeats 1600000 in
theorem yield_calls (B gb : Nat) (w : World) (out : List Int) (i : Int) (hg : Got B gb w out) (hgb : gb < B) (hB : B ≤ w.heap.size) (hl : out.length ≤ 900) :
    Calls Tryz.prog 27 #[.int .i64 i, .pointer (some ⟨gb, 0, none⟩)] w fun r w' => r = .returned (.bool true) ∧ Got B gb w' (out ++ [i]) ∧ Kept (fun k => k = gb ∨ B ≤ k) w w' := by
  obtain ⟨v, bG, own⟩ := hg
  obtain ⟨A1, c1, hv, hnc, hcm⟩ := own_form own
  subst hv
  have c0 := bG.at_ (i := 0) (v := .slice A1 out.length c1) rfl
  go_enter Tryz.func27, Tryz.ntmps27
  go_upto_region 1 with fail
  have own1 := own_below own (below_new w (.cells #[.int .i64 i] 3)) (fun k hk => (own.lt k hk).2)
  have rv1 : RV (w.alloc (.cells #[.int .i64 i] 3)) (some ⟨w.heap.size, 0, none⟩) (iC i) := RV.new w (iC i) 3 (0, 0)
  have bG1 := bG.alloc (.cells #[.int .i64 i] 3)
  have hs1 : w.heap.size ≤ (w.alloc (.cells #[.int .i64 i] 3)).heap.size := by simp
  with_reducible refine wp_region_lit ?_
  with_reducible refine wpList_cutAt 3 ?_
  simp only [List.take_succ_cons, List.take_zero, List.drop_succ_cons, List.drop_zero]
  go_wp2_with fail
  with_reducible refine CutQ.go_ ?_
  with_reducible refine wpList_append_rv el_int (by kernel_rfl) (.tmp 4) (.tmp 6) rfl B (.slice A1 out.length c1) out.length (fl iC out) (by kernel_rfl) own1 (some ⟨w.heap.size, 0, none⟩) 1 1 (iC i) (by kernel_rfl) (by kernel_rfl) rv1 (iC_one _) ?f2 ?f3 ?f4 ?_
  case f2 => unfold maxLen; omega
  case f3 => omega
  case f4 => exact Nat.le_trans hB hs1
  intro v6 w6 own6 gr6 _
  have ne : ∀ k, some k = (Value.slice A1 out.length c1).ownBlock → B ≤ k := fun k hk => (own1.lt k hk.symm).1
  have bG6 := blk_grownO bG1 gr6 (fun q => by have := ne _ q; omega)
  have K6 : Kept (fun k => k = gb ∨ B ≤ k) w w6 := ((Kept.refl _ w).alloc _).grown gr6 (fun k hk => .inl (.inr (ne k hk.symm)))
  have own7 : Ints B w6 v6 (out ++ [i]) := by
    show w6.ownsRow _ _ _ _ (out ++ [i]).length (fl iC (out ++ [i]))
    rw [List.length_append, List.length_singleton, fl_append, fl_one]
    exact own6
  clear gr6 own6 own1 rv1 own bG bG1 c0 ne
  have c6 := bG6.at_ (i := 0) (v := .slice A1 out.length c1) rfl
  have z6 := bG6.frozen 0
  have ownz : Ints B (w6.setCell ⟨gb, 0, none⟩ v6) v6 (out ++ [i]) := own_frame own7 fun k hk => heap_setCell_other w6 ⟨gb, 0, none⟩ k v6 (by have := (own7.lt k hk).1; show k ≠ gb; omega)
  have Kz := K6.setCell (p := ⟨gb, 0, none⟩) (.inl (.inl rfl)) v6
  have bGz : Blk (w6.setCell ⟨gb, 0, none⟩ v6) gb 64 #[v6] := bG6.set_ 0 v6
  have hl9 : (out ++ [i]).length = out.length + 1 := by rw [List.length_append]; rfl
  obtain ⟨A2, c2, hv2, hnc2, hcm2⟩ := own_form own7
  rw [hl9] at hv2
  have cz := bGz.at_ (i := 0) (v := v6) rfl
  have d9 : decide (((out.length + 1 : Nat) : Int) < (1000 : Int)) = true := decide_eq_true (by omega)
  have d8 : decide (out.length + 1 < 1000) = true := decide_eq_true (by omega)
  clear own7 K6 bG6
  subst hv2
  go_wp2_with fail
  go_ret
  exact ⟨by show Ending.returned (.bool (decide ((out.length : Int) + 1 < 1000))) = _; rw [decide_eq_true (by omega)], ⟨_, bGz, ownz⟩, Kz⟩
set_option maxRecDepth 100000 in
set_option maxHeartbeats 1600000 in
theorem values_calls (w : World) (bx gb B0 : Nat) (v : Value) (l : List Int) (hb : Blk w bx 64 #[v]) (own : Ints B0 w v l) (hg : Got w.heap.size gb w []) (hgb : gb < w.heap.size) (_hne : bx ≠ gb) (hne2 : ∀ k, v.ownBlock = some k → k ≠ gb) (hl : l.length ≤ 900) :
    Calls Tryz.prog 112 #[.func (.func 27) #[] #[.pointer (some ⟨gb, 0, none⟩)], .pointer (some ⟨bx, 0, none⟩)] w fun r w' => r = .returned (.tuple #[]) ∧ Got w.heap.size gb w' l ∧ Kept (fun k => k = gb ∨ w.heap.size ≤ k) w w' := by
  obtain ⟨A1, c1, hv, hnc, hcm⟩ := own_form own
  subst hv
  have c0 := hb.at_ (i := 0) (v := .slice A1 l.length c1) rfl
  have lmax : l.length ≤ 9223372036854775807 := by omega
  go_enter Tryz.func112, Tryz.ntmps112
  go_wp2_with fail
  go_loopw [7] (fun i wr => ∃ k : Nat, k ≤ l.length ∧ i = .int .i64 (k : Int) ∧ Got w.heap.size gb wr (l.take k) ∧ Kept (fun k => k = gb ∨ w.heap.size ≤ k) w wr) (fun i _ => l.length - (intOf i).toNat)
  case atStart => exact ⟨0, by omega, rfl, hg, Kept.refl _ w⟩
  case round =>
  clear hg
  obtain ⟨k, hk, rfl, G, K⟩ := hrel
  by_cases hlt : k < l.length
  case neg =>
    obtain rfl : k = l.length := by omega
    have dec : decide ((l.length : Int) < (l.length : Int)) = false := decide_eq_false (by omega)
    rw [List.take_of_length_le (Nat.le_refl _)] at G
    go_wp2_with fail
    refine bodyPost_end (results_none rfl _ _ _) rfl ?_
    exact ⟨rfl, G, K⟩
  have dec : decide ((k : Int) < (l.length : Int)) = true := decide_eq_true (by omega)
  have dec' : decide (k < l.length) = true := decide_eq_true hlt
  have ownr : Ints B0 wr (.slice A1 l.length c1) l := own_frame own fun j hj => K.block j (own.lt j hj).2 fun q => by
    rcases q with q | q
    · exact hne2 j hj q
    · have := (own.lt j hj).2
      omega
  have rv := RV.of_own ownr
  have hfl : k < (fl iC l).length := by rw [fl_iC, List.length_map]; exact hlt
  obtain ⟨b, off, rfl, hbs, hc⟩ := rv.at_ hfl
  have hce : (fl iC l)[k] = .int .i64 l[k] := by
    have : (fl iC l)[k]? = some (.int .i64 l[k]) := by rw [fl_iC, List.getElem?_map, List.getElem?_eq_getElem hlt]; rfl
    rw [List.getElem?_eq_getElem hfl] at this
    injection this
  rw [hce] at hc
  have ht : l.take (k + 1) = l.take k ++ [l[k]] := by rw [List.take_add_one, List.getElem?_eq_getElem hlt]; rfl
  generalize l[k] = x at *
  replace ht := Lib.hid ht
  clear hce hfl rv ownr
  have YC := yield_calls w.heap.size gb wr (l.take k) x G hgb K.size (by rw [List.length_take]; omega)
  clear G
  go_wp2_with (go_at_call 27; refine YC.mono ?_; rintro _ w2 ⟨rfl, G2, K2⟩; clear YC)
  have K3 : Kept (fun k => k = gb ∨ w.heap.size ≤ k) w w2 := ⟨K2.os.trans K.os, K2.tape.trans K.tape, K2.output.trans K.output, Nat.le_trans K.size K2.size, fun j hj hF => (K2.block j (Nat.lt_of_lt_of_le hj K.size) hF).trans (K.block j hj hF)⟩
  go_roundw
  case rel => exact ⟨k + 1, by omega, by go_num, by rw [ht.out]; exact G2, K3⟩
  case measure => simp [intOf]; omega
end Go.Proofs.YtiokbebodblhaaaGreatDoor
