/-
  Walks of the document: a tag's word, a span's; how long texts are.
-/
import Derived.Test.YtiokbebodblhaaaGreatDoorTraceDw
import Derived.Test.YtiokbebodblhaaaGreatDoorTPlain
namespace Go.Proofs.YtiokbebodblhaaaGreatDoor
open Go.RowKit TraceP

theorem spT_le : ∀ (W : List Txt) (n : Nat), Lw n W → (spT W).length ≤ n * 1000001
  | [], _, _ => Nat.zero_le _
  | [a], n, h => by
    have h1 := h.2 a (List.mem_cons_self ..)
    have h2 := h.1
    show a.length ≤ _
    simp at h2
    omega
  | a :: b :: r, n, h => by
    have h1 := h.2 a (List.mem_cons_self ..)
    have h2 := h.1
    rw [List.length_cons] at h2
    have ih := spT_le (b :: r) (n - 1) ⟨by omega, fun x hx => h.2 x (List.mem_cons_of_mem _ hx)⟩
    rw [spT_cons a (by simp), List.length_append, List.length_cons]
    obtain ⟨m, rfl⟩ : ∃ m, n = m + 1 := ⟨n - 1, by omega⟩
    rw [Nat.add_sub_cancel] at ih
    rw [Nat.succ_mul]
    omega
/-- A text piece: short enough to be put behind another. -/
def Sml (t : Txt) : Prop := t.length ≤ 1000000000000
theorem sml_lw {n : Nat} {W : List Txt} (h : Lw n W) (hn : n ≤ 999000) : Sml (spT W) := Nat.le_trans (spT_le W n h) (Nat.le_trans (Nat.mul_le_mul_right _ hn) (by decide))
theorem numC_grow {n : Int} (h : I64 n) (w r : World) : Calls Tryz.prog 33 #[.int .i64 n] (grow w r) fun e w' => e = .returned (.string (bstr (numT n))) ∧ ∃ r', w' = grow w r' :=
  calls_grow_same ((dnum_calls n h (grow w r)).mono fun _ _ ⟨a, b⟩ => ⟨a, b⟩)
theorem yesC_grow (b : Bool) (w r : World) : Calls Tryz.prog 36 #[.bool b] (grow w r) fun e w' => e = .returned (.string (bstr (yesT b))) ∧ ∃ r', w' = grow w r' :=
  calls_grow_same (ryes_calls b (grow w r))
theorem wordC_grow {t : Txt} (h : ShT t) (w r : World) : Calls Tryz.prog 34 #[.string (bstr t)] (grow w r) fun e w' => e = .returned (.string (bstr (wordT t))) ∧ ∃ r', w' = grow w r' :=
  calls_grow (dword_calls t (grow w r) (Nat.le_trans h (by decide)))
theorem dtag_calls (t : Tag) (w : World) (h : ShT t.text) : Calls Tryz.prog 75 #[.agg #[.string (bstr t.text), .bool t.weak]] w fun e w' => e = .returned (.string (bstr (tagT t))) ∧ Below w.heap.size w w' := by
  have bT := Blk.new w 25 #[.string (bstr t.text), .bool t.weak]
  have B := below_new w (.cells #[.string (bstr t.text), .bool t.weak] 25)
  have c0 := bT.at_ (i := 0) (v := .string (bstr t.text)) rfl
  have c1 := bT.at_ (i := 1) (v := .bool t.weak) rfl
  have hW := dword_calls t.text (w.alloc (.cells #[.string (bstr t.text), .bool t.weak] 25)) (Nat.le_trans h (by decide))
  have hl := wordT_len h
  obtain ⟨x, k⟩ := t
  dsimp only at hl hW c0 c1 bT B
  have hb1 : (⟨#[119]⟩ : ByteArray) ++ bstr (wordT x) = bstr (119 :: wordT x) := bstr_add [119] _
  have hb2 : (⟨#[115]⟩ : ByteArray) ++ bstr (wordT x) = bstr (115 :: wordT x) := bstr_add [115] _
  have z1 : ¬ 9223372036854775807 < (⟨#[119]⟩ : ByteArray).size + (bstr (wordT x)).size := by
    rw [bstr_size]
    show ¬ _ < 1 + _
    omega
  have z2 : ¬ 9223372036854775807 < (⟨#[115]⟩ : ByteArray).size + (bstr (wordT x)).size := by
    rw [bstr_size]
    show ¬ _ < 1 + _
    omega
  cases k
  · by_cases hx : x = []
    · have hT : tagT ⟨x, false⟩ = [45] := by unfold tagT; simp [hx]
      rw [hT]
      have hq : (bstr x).toList.isEmpty = true := by rw [bstr_list, hx]; rfl
      clear hx hW
      go_enter Tryz.func75, Tryz.ntmps75
      go_wp2_with fail
      go_ret
      exact ⟨rfl, B⟩
    · have hT : tagT ⟨x, false⟩ = 115 :: wordT x := by unfold tagT; simp [hx]
      rw [hT]
      have hq : (bstr x).toList.isEmpty = false := by rw [bstr_list]; cases x with | nil => exact absurd rfl hx | cons _ _ => rfl
      clear hx
      go_enter Tryz.func75, Tryz.ntmps75
      go_wp2_with (go_at_call 34; refine hW.mono ?_; rintro _ w2 ⟨rfl, d2⟩; have B2 := B.trans (d2.mono B.size); clear d2)
      go_ret
      exact ⟨rfl, B2⟩
  · have hT : tagT ⟨x, true⟩ = 119 :: wordT x := by unfold tagT; simp
    rw [hT]
    go_enter Tryz.func75, Tryz.ntmps75
    go_wp2_with (go_at_call 34; refine hW.mono ?_; rintro _ w2 ⟨rfl, d2⟩; have B2 := B.trans (d2.mono B.size); clear d2)
    go_ret
    exact ⟨rfl, B2⟩
theorem tagC_grow {t : Tag} (h : ShT t.text) (w r : World) : Calls Tryz.prog 75 #[.agg #[.string (bstr t.text), .bool t.weak]] (grow w r) fun e w' => e = .returned (.string (bstr (tagT t))) ∧ ∃ r', w' = grow w r' :=
  calls_grow (dtag_calls t (grow w r) h)
end Go.Proofs.YtiokbebodblhaaaGreatDoor
namespace Go.Proofs.YtiokbebodblhaaaGreatDoor
open Go.RowKit TraceP

set_option maxRecDepth 100000 in
set_option maxHeartbeats 1600000 in
theorem dspan_calls (s : Spn) (w : World) (h : SpnI s) :
    Calls Tryz.prog 77 #[.agg #[.int .i64 s.frm, .int .i64 s.to]] w fun e w' => e = .returned (.string (bstr (spT (spnW s)))) ∧ Below w.heap.size w w' := by
  have bS := Blk.new w 38 #[.int .i64 s.frm, .int .i64 s.to]
  have B := below_new w (.cells #[.int .i64 s.frm, .int .i64 s.to] 38)
  have c0 := growc (bS.at_ (i := 0) (v := .int .i64 s.frm) rfl)
  have c1 := growc (bS.at_ (i := 1) (v := .int .i64 s.to) rfl)
  have l1 := numT_len h.1
  have l2 := numT_len h.2
  go_enter Tryz.func77, Tryz.ntmps77
  go_upto_region 1 with (fail)
  generalize w.alloc (.cells #[.int .i64 s.frm, .int .i64 s.to] 38) = w1 at *
  refine wp_region_grow (by kernel_rfl) (by kernel_rfl) ?_
  go_big_quiet_step (fail)
  go_big_quiet_step (fail)
  go_big_quiet_step (first | (go_at_call 33; exact numC_grow h.1 _ _))
  with_reducible refine wqA (.tmp 5) spO rfl (numT s.frm) ([32]) ?_
  go_frame
  go_big_quiet_step (fail)
  go_big_quiet_step (fail)
  go_big_quiet_step (first | (go_at_call 33; exact numC_grow h.2 _ _))
  with_reducible refine wqA (.tmp 6) (.tmp 9) rfl (numT s.frm ++ [32]) (numT s.to) ?_
  go_frame
  go_big_quiet_step (fail)
  refine wpQuiet_nil ?_
  rintro w' ⟨r, rfl⟩
  have BB := B.trans ((grow_below w1 r).mono B.size)
  clear c0 c1 bS
  go_wp2
  go_ret
  refine ⟨?_, BB⟩
  exact congrArg (fun t => Ending.returned (.string (bstr t))) (by simp [spnW, spT])
theorem spanC_grow {s : Spn} (h : SpnI s) (w r : World) : Calls Tryz.prog 77 #[.agg #[.int .i64 s.frm, .int .i64 s.to]] (grow w r) fun e w' => e = .returned (.string (bstr (spT (spnW s)))) ∧ ∃ r', w' = grow w r' :=
  calls_grow (dspan_calls s (grow w r) h)
set_option maxRecDepth 100000 in
set_option maxHeartbeats 1600000 in
theorem dfetch_calls (f : Fet) (w : World) (h : FetP f) :
    Calls Tryz.prog 40 #[.agg #[.string (bstr f.object), .int .i64 f.span.frm, .int .i64 f.span.to, .string (bstr f.mtch.text), .bool f.mtch.weak, .string (bstr f.non.text), .bool f.non.weak]] w fun e w' => e = .returned (.string (bstr (spT (fetW f)))) ∧ Below w.heap.size w w' := by
  have bS := Blk.new w 40 #[.string (bstr f.object), .int .i64 f.span.frm, .int .i64 f.span.to, .string (bstr f.mtch.text), .bool f.mtch.weak, .string (bstr f.non.text), .bool f.non.weak]
  have B := below_new w (.cells #[.string (bstr f.object), .int .i64 f.span.frm, .int .i64 f.span.to, .string (bstr f.mtch.text), .bool f.mtch.weak, .string (bstr f.non.text), .bool f.non.weak] 40)
  have c0 := growc (bS.at_ (i := 0) (v := .string (bstr f.object)) rfl)
  have c1 := growc (bS.at_ (i := 1) (v := .int .i64 f.span.frm) rfl)
  have c2 := growc (bS.at_ (i := 2) (v := .int .i64 f.span.to) rfl)
  have c3 := growc (bS.at_ (i := 3) (v := .string (bstr f.mtch.text)) rfl)
  have c4 := growc (bS.at_ (i := 4) (v := .bool f.mtch.weak) rfl)
  have c5 := growc (bS.at_ (i := 5) (v := .string (bstr f.non.text)) rfl)
  have c6 := growc (bS.at_ (i := 6) (v := .bool f.non.weak) rfl)
  have l1 := wordT_len h.object
  have l2 : Sml (spT (spnW f.span)) := sml_lw (spn_lw h.span) (by decide)
  unfold Sml at l2
  have l3 := tagT_len h.mtch
  have l4 := tagT_len h.non
  go_enter Tryz.func40, Tryz.ntmps40
  go_upto_region 1 with (fail)
  generalize w.alloc (.cells #[.string (bstr f.object), .int .i64 f.span.frm, .int .i64 f.span.to, .string (bstr f.mtch.text), .bool f.mtch.weak, .string (bstr f.non.text), .bool f.non.weak] 40) = w1 at *
  refine wp_region_grow (by kernel_rfl) (by kernel_rfl) ?_
  go_big_quiet_step (fail)
  go_big_quiet_step (fail)
  go_big_quiet_step (first | (go_at_call 34; exact wordC_grow h.object _ _))
  with_reducible refine wqA (.tmp 5) spO rfl (wordT f.object) ([32]) ?_
  go_frame
  go_big_quiet_step (fail)
  go_big_quiet_step (fail)
  go_big_quiet_step (first | (go_at_call 77; exact spanC_grow (s := f.span) h.span _ _))
  with_reducible refine wqA (.tmp 6) (.tmp 9) rfl (wordT f.object ++ [32]) (spT (spnW f.span)) ?_
  go_frame
  with_reducible refine wqA (.tmp 10) spO rfl (wordT f.object ++ [32] ++ spT (spnW f.span)) ([32]) ?_
  go_frame
  go_big_quiet_step (fail)
  go_big_quiet_step (fail)
  go_big_quiet_step (first | (go_at_call 75; exact tagC_grow (t := f.mtch) h.mtch _ _))
  with_reducible refine wqA (.tmp 11) (.tmp 14) rfl (wordT f.object ++ [32] ++ spT (spnW f.span) ++ [32]) (tagT f.mtch) ?_
  go_frame
  with_reducible refine wqA (.tmp 15) spO rfl (wordT f.object ++ [32] ++ spT (spnW f.span) ++ [32] ++ tagT f.mtch) ([32]) ?_
  go_frame
  go_big_quiet_step (fail)
  go_big_quiet_step (fail)
  go_big_quiet_step (first | (go_at_call 75; exact tagC_grow (t := f.non) h.non _ _))
  with_reducible refine wqA (.tmp 16) (.tmp 19) rfl (wordT f.object ++ [32] ++ spT (spnW f.span) ++ [32] ++ tagT f.mtch ++ [32]) (tagT f.non) ?_
  go_frame
  go_big_quiet_step (fail)
  refine wpQuiet_nil ?_
  rintro w' ⟨r, rfl⟩
  have BB := B.trans ((grow_below w1 r).mono B.size)
  clear c0 c1 c2 c3 c4 c5 c6 bS
  go_wp2
  go_ret
  refine ⟨?_, BB⟩
  exact congrArg (fun t => Ending.returned (.string (bstr t))) (by unfold fetW; rw [spT_cons _ (by simp [spnW]), spT_append (by simp [spnW]) (by simp)]; simp [spT])
end Go.Proofs.YtiokbebodblhaaaGreatDoor
namespace Go.Proofs.YtiokbebodblhaaaGreatDoor
open Go.RowKit TraceP

/-- Words, each behind a blank. -/
def flT (W : List Txt) : Txt := W.flatMap fun t => 32 :: t
theorem flT_append (a b : List Txt) : flT (a ++ b) = flT a ++ flT b := by simp [flT]
theorem flT_cons (a : Txt) (b : List Txt) : flT (a :: b) = 32 :: (a ++ flT b) := by simp [flT]
theorem spT_fl : ∀ (a : Txt) (W : List Txt), spT (a :: W) = a ++ flT W
  | a, [] => by simp [spT, flT]
  | a, b :: r => by rw [spT_cons a (by simp), spT_fl b r, flT_cons]
theorem meas_next {n k : Nat} {v : Value} (h : k < n) (hv : v = .int .i64 ((k : Int) + 1)) : n - (intOf v).toNat < n - (intOf (.int .i64 (k : Int))).toNat := by
  subst hv
  show n - ((k : Int) + 1).toNat < n - (k : Int).toNat
  omega
theorem lw_map {α : Type} (f : α → Txt) {l : List α} {n : Nat} (h : ∀ a ∈ l, (f a).length ≤ 1000000) (hn : l.length ≤ n) : Lw n (l.map f) :=
  ⟨by rw [List.length_map]; exact hn, fun x hx => by obtain ⟨a, ha, rfl⟩ := List.mem_map.1 hx; exact h a ha⟩
set_option maxRecDepth 100000 in
set_option maxHeartbeats 1600000 in
theorem dtexts_calls (w : World) (A : Option Addr) (c : Nat) (l : List Txt) (hr : RV w A (fl txC l)) (hp : LstP 100001 ShT l) :
    Calls Tryz.prog 37 #[.slice A l.length c] w fun e w' => e = .returned (.string (bstr (spT (textsW l)))) ∧ Below w.heap.size w w' := by
  have hI : I64 (l.length : Int) := by have := hp.1; exact ⟨by omega, by omega⟩
  have NC := dnum_calls (l.length : Int) hI
  have hz : numT (l.length : Int) ++ flT ((l.take 0).map wordT) = numT (l.length : Int) := by simp [flT]
  go_enter Tryz.func37, Tryz.ntmps37
  go_wp2_with (go_at_call 33; refine (NC w).mono ?_; rintro _ w1 ⟨rfl, rfl⟩)
  go_loopw [3, 11] (fun s i wr => ∃ k : Nat, k ≤ l.length ∧ i = .int .i64 (k : Int) ∧ s = .string (bstr (numT (l.length : Int) ++ flT ((l.take k).map wordT))) ∧ Below w.heap.size w wr) (fun _ i _ => l.length - (intOf i).toNat)
  case atStart => exact ⟨0, by omega, rfl, by rw [hz], Below.refl _ _⟩
  case round =>
    clear NC hz
    obtain ⟨k, hk, rfl, rfl, B⟩ := hrel
    by_cases hlt : k < l.length
    · have dec : decide ((k : Int) < (l.length : Int)) = true := decide_eq_true (by omega)
      have dec' : decide (k < l.length) = true := decide_eq_true hlt
      have wk : wrap64 ((k : Int) + 1) = (k : Int) + 1 := by have := hp.1; unfold wrap64; omega
      have HL : (numT (l.length : Int) ++ flT ((l.take k).map wordT)).length ≤ 1000000000000 := by
        rw [← spT_fl]
        exact sml_lw (n := 100002) (Lw.cons (lenT_len hp.1) (lw_map wordT (fun a ha => wordT_len (hp.2 a (List.mem_of_mem_take ha))) (by rw [List.length_take]; have := hp.1; omega))) (by decide)
      have HT : Hid (numT (l.length : Int) ++ flT ((l.take (k + 1)).map wordT) = ((numT (l.length : Int) ++ flT ((l.take k).map wordT)) ++ [32]) ++ wordT l[k]) := Lib.hid (by rw [map_take_succ _ hlt, flT_append]; simp [flT])
      have hx := hp.2 _ (List.getElem_mem hlt)
      obtain ⟨b, off, rfl, hbs, hc⟩ := fl_elem1 txC_len (hr.below B) hlt
      generalize numT (l.length : Int) ++ flT ((l.take k).map wordT) = X at *
      generalize l[k] = a at *
      have x0 := hc (.string (bstr a)) rfl
      clear hc
      have hI2 := wordT_len hx
      go_upto_region 5 with fail
      have BR := B
      with_reducible refine wp_region_lit ?_
      with_reducible refine wpList_cutAt 1 ?_
      simp only [List.take_succ_cons, List.take_zero, List.drop_succ_cons, List.drop_zero]
      repeat (first | go_values | go_skip | go_guarded | go_step | go_upon)
      with_reducible refine CutQ.go_ ?_
      with_reducible refine wpList_add (by kernel_rfl) _ (.tmp 15) spO rfl X [32] (by kernel_rfl) (by kernel_rfl) (by simp only [List.length_cons, List.length_nil]; omega) ?_
      go_frame
      with_reducible refine wpList_cutAt 2 ?_
      simp only [List.take_succ_cons, List.take_zero, List.drop_succ_cons, List.drop_zero]
      go_wp2_with (go_at_call 34; refine (dword_calls a _ (Nat.le_trans hx (by decide))).mono ?_; rintro _ w3 ⟨rfl, d3⟩; have B3 := BR.trans (d3.mono BR.size); clear d3)
      with_reducible refine CutQ.go_ ?_
      with_reducible refine wpList_add (by kernel_rfl) _ (.tmp 16) (.tmp 18) rfl (X ++ [32]) (wordT a) (by kernel_rfl) (by kernel_rfl) (by simp only [List.length_append, List.length_cons, List.length_nil]; omega) ?_
      go_frame
      go_wp2_with fail
      go_roundw
      case rel => exact ⟨k + 1, by omega, by go_num, by rw [HT.out], B3⟩
      case measure => exact meas_next hlt (by go_num)
    · obtain rfl : k = l.length := by omega
      have dec : decide ((l.length : Int) < (l.length : Int)) = false := decide_eq_false (by omega)
      rw [List.take_length]
      have he : Hid (numT (l.length : Int) ++ flT (l.map wordT) = spT (textsW l)) := Lib.hid (by unfold textsW; rw [spT_fl])
      go_wp2_with fail
      go_ret
      exact ⟨by rw [← he.out]; rfl, B⟩
set_option maxRecDepth 100000 in
set_option maxHeartbeats 1600000 in
theorem dtags_calls (w : World) (A : Option Addr) (c : Nat) (l : List Tag) (hr : RV w A (fl tgC l)) (hp : LstP 100001 (fun t => ShT t.text) l) :
    Calls Tryz.prog 76 #[.slice A l.length c] w fun e w' => e = .returned (.string (bstr (spT (tagsW l)))) ∧ Below w.heap.size w w' := by
  have hI : I64 (l.length : Int) := by have := hp.1; exact ⟨by omega, by omega⟩
  have NC := dnum_calls (l.length : Int) hI
  have hz : numT (l.length : Int) ++ flT ((l.take 0).map tagT) = numT (l.length : Int) := by simp [flT]
  go_enter Tryz.func76, Tryz.ntmps76
  go_wp2_with (go_at_call 33; refine (NC w).mono ?_; rintro _ w1 ⟨rfl, rfl⟩)
  go_loopw [3, 11] (fun s i wr => ∃ k : Nat, k ≤ l.length ∧ i = .int .i64 (k : Int) ∧ s = .string (bstr (numT (l.length : Int) ++ flT ((l.take k).map tagT))) ∧ Below w.heap.size w wr) (fun _ i _ => l.length - (intOf i).toNat)
  case atStart => exact ⟨0, by omega, rfl, by rw [hz], Below.refl _ _⟩
  case round =>
    clear NC hz
    obtain ⟨k, hk, rfl, rfl, B⟩ := hrel
    by_cases hlt : k < l.length
    · have dec : decide ((k : Int) < (l.length : Int)) = true := decide_eq_true (by omega)
      have dec' : decide (k < l.length) = true := decide_eq_true hlt
      have wk : wrap64 ((k : Int) + 1) = (k : Int) + 1 := by have := hp.1; unfold wrap64; omega
      have HL : (numT (l.length : Int) ++ flT ((l.take k).map tagT)).length ≤ 1000000000000 := by
        rw [← spT_fl]
        exact sml_lw (n := 100002) (Lw.cons (lenT_len hp.1) (lw_map tagT (fun a ha => tagT_len (hp.2 a (List.mem_of_mem_take ha))) (by rw [List.length_take]; have := hp.1; omega))) (by decide)
      have HT : Hid (numT (l.length : Int) ++ flT ((l.take (k + 1)).map tagT) = ((numT (l.length : Int) ++ flT ((l.take k).map tagT)) ++ [32]) ++ tagT l[k]) := Lib.hid (by rw [map_take_succ _ hlt, flT_append]; simp [flT])
      have hx := hp.2 _ (List.getElem_mem hlt)
      obtain ⟨b, off, rfl, hbs, hc, hc1⟩ := fl_elem2 tgC_len (hr.below B) hlt
      generalize numT (l.length : Int) ++ flT ((l.take k).map tagT) = X at *
      generalize l[k] = a at *
      have x0 := hc (.string (bstr a.text)) rfl
      have x1 := hc1 (.bool a.weak) rfl
      clear hc hc1
      have hI2 := tagT_len hx
      go_upto_region 5 with fail
      have BR := B.trans ((below_new wr (.cells #[.string (bstr a.text), .bool a.weak] 25)).mono B.size)
      with_reducible refine wp_region_lit ?_
      with_reducible refine wpList_cutAt 1 ?_
      simp only [List.take_succ_cons, List.take_zero, List.drop_succ_cons, List.drop_zero]
      repeat (first | go_values | go_skip | go_guarded | go_step | go_upon)
      with_reducible refine CutQ.go_ ?_
      with_reducible refine wpList_add (by kernel_rfl) _ (.tmp 15) spO rfl X [32] (by kernel_rfl) (by kernel_rfl) (by simp only [List.length_cons, List.length_nil]; omega) ?_
      go_frame
      with_reducible refine wpList_cutAt 2 ?_
      simp only [List.take_succ_cons, List.take_zero, List.drop_succ_cons, List.drop_zero]
      go_wp2_with (go_at_call 75; refine (dtag_calls a _ hx).mono ?_; rintro _ w3 ⟨rfl, d3⟩; have B3 := BR.trans (d3.mono BR.size); clear d3)
      with_reducible refine CutQ.go_ ?_
      with_reducible refine wpList_add (by kernel_rfl) _ (.tmp 16) (.tmp 18) rfl (X ++ [32]) (tagT a) (by kernel_rfl) (by kernel_rfl) (by simp only [List.length_append, List.length_cons, List.length_nil]; omega) ?_
      go_frame
      go_wp2_with fail
      go_roundw
      case rel => exact ⟨k + 1, by omega, by go_num, by rw [HT.out], B3⟩
      case measure => exact meas_next hlt (by go_num)
    · obtain rfl : k = l.length := by omega
      have dec : decide ((l.length : Int) < (l.length : Int)) = false := decide_eq_false (by omega)
      rw [List.take_length]
      have he : Hid (numT (l.length : Int) ++ flT (l.map tagT) = spT (tagsW l)) := Lib.hid (by unfold tagsW; rw [spT_fl])
      go_wp2_with fail
      go_ret
      exact ⟨by rw [← he.out]; rfl, B⟩
end Go.Proofs.YtiokbebodblhaaaGreatDoor
namespace Go.Proofs.YtiokbebodblhaaaGreatDoor
open Go.RowKit TraceP

theorem sp_fl (a : Txt) (W : List Txt) : 32 :: spT (a :: W) = flT (a :: W) := by rw [spT_fl, flT_cons]
theorem textsC_grow (w1 r : World) {A : Option Addr} {c : Nat} {l : List Txt} (hr : RV w1 A (fl txC l)) (hp : LstP 100001 ShT l) : Calls Tryz.prog 37 #[.slice A l.length c] (grow w1 r) fun e w' => e = .returned (.string (bstr (spT (textsW l)))) ∧ ∃ r', w' = grow w1 r' :=
  calls_grow (dtexts_calls (grow w1 r) A c l (hr.below (grow_below w1 r)) hp)
theorem tagsC_grow (w1 r : World) {A : Option Addr} {c : Nat} {l : List Tag} (hr : RV w1 A (fl tgC l)) (hp : LstP 100001 (fun t => ShT t.text) l) : Calls Tryz.prog 76 #[.slice A l.length c] (grow w1 r) fun e w' => e = .returned (.string (bstr (spT (tagsW l)))) ∧ ∃ r', w' = grow w1 r' :=
  calls_grow (dtags_calls (grow w1 r) A c l (hr.below (grow_below w1 r)) hp)
theorem texts_fl (l : List Txt) : 32 :: spT (textsW l) = flT (textsW l) := sp_fl _ _
theorem tags_fl (l : List Tag) : 32 :: spT (tagsW l) = flT (tagsW l) := sp_fl _ _
theorem met_text (m : MetR) : tagT m.tag ++ flT ((sixM m).map numT) ++ [32] ++ spT (textsW m.keys.l) ++ [32] ++ wordT m.tenant ++ [32] ++ yesT m.keep = spT (metW m.abs) := by
  have e := texts_fl m.keys.l
  have e0 : metW m.abs = tagT m.tag :: ((sixM m).map numT ++ (textsW m.keys.l ++ [wordT m.tenant, yesT m.keep])) := rfl
  rw [e0, spT_fl, flT_append, flT_append, ← e]
  simp [flT]
set_option maxRecDepth 100000 in
set_option maxHeartbeats 1600000 in
theorem dmeta_calls (m : MetR) (w : World) (hm : MetOK w m) (hp : MetP m.abs) :
    Calls Tryz.prog 35 #[.agg m.cells.toArray] w fun e w' => e = .returned (.string (bstr (spT (metW m.abs)))) ∧ Below w.heap.size w w' := by
  have bM := Blk.new w 32 m.cells.toArray
  have B := below_new w (.cells m.cells.toArray 32)
  have hX : (tagT m.tag ++ flT ((sixM m).map numT)).length ≤ 8000000 := by
    have hT := tagT_len hp.tag
    have hL := spT_le (tagT m.tag :: (sixM m).map numT) 7 (Lw.cons hT (lw_map numT (fun a ha => by
      simp only [sixM, List.mem_cons, List.not_mem_nil, or_false] at ha
      rcases ha with rfl | rfl | rfl | rfl | rfl | rfl
      · exact numT_len hp.modi
      · exact numT_len hp.len
      · exact numT_len hp.have_
      · exact numT_len hp.fresh
      · exact numT_len hp.while_
      · exact numT_len hp.error) (Nat.le_refl _)))
    rw [spT_fl] at hL
    exact Nat.le_trans hL (by decide)
  have hTC := dtag_calls m.tag (w.alloc (.cells m.cells.toArray 32)) hp.tag
  go_enter Tryz.func35, Tryz.ntmps35
  go_upto_region 1 with (fail)
  generalize w.alloc (.cells m.cells.toArray 32) = w1 at *
  have c0 := bM.at_ (i := 0) (v := .string (bstr m.tag.text)) rfl
  have c1 := bM.at_ (i := 1) (v := .bool m.tag.weak) rfl
  have c2 := bM.at_ (i := 2) (v := .int .i64 m.modi) rfl
  have c3 := bM.at_ (i := 3) (v := .int .i64 m.len) rfl
  have c4 := bM.at_ (i := 4) (v := .int .i64 m.have_) rfl
  have c5 := bM.at_ (i := 5) (v := .int .i64 m.fresh) rfl
  have c6 := bM.at_ (i := 6) (v := .int .i64 m.while_) rfl
  have c7 := bM.at_ (i := 7) (v := .int .i64 m.error) rfl
  have c8 := bM.at_ (i := 8) (v := .slice m.keys.A m.keys.l.length m.keys.cap) rfl
  have c9 := bM.at_ (i := 9) (v := .string (bstr m.tenant)) rfl
  have c10 := bM.at_ (i := 10) (v := .bool m.keep) rfl
  go_upto_region 2 with (go_at_call 75; refine hTC.mono ?_; rintro _ w2 ⟨rfl, d2⟩; have B2 := B.trans (d2.mono B.size); have bM2 := bM.below d2 bM.lt; clear d2 hTC B bM c0 c1 c2 c3 c4 c5 c6 c7 c8 c9 c10)
  have hw2 := B2.size
  replace bM := bM2
  have c0 := bM.at_ (i := 0) (v := .string (bstr m.tag.text)) rfl
  have c1 := bM.at_ (i := 1) (v := .bool m.tag.weak) rfl
  have c2 := bM.at_ (i := 2) (v := .int .i64 m.modi) rfl
  have c3 := bM.at_ (i := 3) (v := .int .i64 m.len) rfl
  have c4 := bM.at_ (i := 4) (v := .int .i64 m.have_) rfl
  have c5 := bM.at_ (i := 5) (v := .int .i64 m.fresh) rfl
  have c6 := bM.at_ (i := 6) (v := .int .i64 m.while_) rfl
  have c7 := bM.at_ (i := 7) (v := .int .i64 m.error) rfl
  have c8 := bM.at_ (i := 8) (v := .slice m.keys.A m.keys.l.length m.keys.cap) rfl
  have c9 := bM.at_ (i := 9) (v := .string (bstr m.tenant)) rfl
  have c10 := bM.at_ (i := 10) (v := .bool m.keep) rfl
  have b6 := Blk.new w2 2 #[.int .i64 m.modi, .int .i64 m.len, .int .i64 m.have_, .int .i64 m.fresh, .int .i64 m.while_, .int .i64 m.error]
  have B3 := B2.trans ((below_new w2 (.cells #[.int .i64 m.modi, .int .i64 m.len, .int .i64 m.have_, .int .i64 m.fresh, .int .i64 m.while_, .int .i64 m.error] 2)).mono hw2)
  have bM3 := bM.alloc (.cells #[.int .i64 m.modi, .int .i64 m.len, .int .i64 m.have_, .int .i64 m.fresh, .int .i64 m.while_, .int .i64 m.error] 2)
  go_wp2_with fail
  go_loopw [3, 23] (fun s i wr => ∃ k : Nat, k ≤ 6 ∧ i = .int .i64 (k : Int) ∧ s = .string (bstr (tagT m.tag ++ flT (((sixM m).take k).map numT))) ∧ Below w.heap.size w wr ∧ Blk wr w.heap.size 32 m.cells.toArray ∧ Blk wr w2.heap.size 2 #[.int .i64 m.modi, .int .i64 m.len, .int .i64 m.have_, .int .i64 m.fresh, .int .i64 m.while_, .int .i64 m.error]) (fun _ i _ => 6 - (intOf i).toNat)
  case atStart => exact ⟨0, by omega, rfl, by simp [flT], B3, bM3, b6⟩
  case round =>
    clear B3 bM3 b6 bM bM2 B2 c0 c1 c2 c3 c4 c5 c6 c7 c8 c9 c10
    obtain ⟨k, hk, rfl, rfl, B, bM, b6⟩ := hrel
    by_cases hlt : k < 6
    · have dec : decide ((k : Int) < 6) = true := decide_eq_true (by omega)
      have dec' : decide (k < 6) = true := decide_eq_true hlt
      have x0 := b6.at_ (six_at m k hlt)
      have hi := six_i m hm.i k hlt
      have HT : Hid (tagT m.tag ++ flT (((sixM m).take (k + 1)).map numT) = ((tagT m.tag ++ flT (((sixM m).take k).map numT)) ++ [32]) ++ numT ((sixM m).getD k 0)) := Lib.hid (by rw [six_take m k hlt, flT_append]; simp [flT])
      have HL : (tagT m.tag ++ flT (((sixM m).take k).map numT)).length ≤ 8000000 := by
        have h1 : (tagT m.tag ++ flT ((sixM m).map numT)).length = (tagT m.tag ++ flT (((sixM m).take k).map numT)).length + (flT (((sixM m).drop k).map numT)).length := by
          have : (sixM m).map numT = ((sixM m).take k).map numT ++ ((sixM m).drop k).map numT := by rw [← List.map_append, List.take_append_drop]
          rw [this, flT_append]
          simp only [List.length_append]
          omega
        omega
      have NC := dnum_calls _ hi wr
      have hn := numT_len hi
      generalize (sixM m).getD k 0 = n at *
      generalize tagT m.tag ++ flT (((sixM m).take k).map numT) = X at *
      go_upto_region 5 with fail
      with_reducible refine wp_region_lit ?_
      with_reducible refine wpList_cutAt 1 ?_
      simp only [List.take_succ_cons, List.take_zero, List.drop_succ_cons, List.drop_zero]
      repeat (first | go_values | go_skip | go_guarded | go_step | go_upon)
      with_reducible refine CutQ.go_ ?_
      with_reducible refine wpList_add (by kernel_rfl) _ (.tmp 27) spO rfl X [32] (by kernel_rfl) (by kernel_rfl) (by simp only [List.length_cons, List.length_nil]; omega) ?_
      go_frame
      with_reducible refine wpList_cutAt 2 ?_
      simp only [List.take_succ_cons, List.take_zero, List.drop_succ_cons, List.drop_zero]
      go_wp2_with (go_at_call 33; refine NC.mono ?_; rintro _ w3 ⟨rfl, rfl⟩)
      with_reducible refine CutQ.go_ ?_
      with_reducible refine wpList_add (by kernel_rfl) _ (.tmp 28) (.tmp 30) rfl (X ++ [32]) (numT n) (by kernel_rfl) (by kernel_rfl) (by simp only [List.length_append, List.length_cons, List.length_nil]; omega) ?_
      go_frame
      go_wp2_with fail
      go_roundw
      case rel => exact ⟨k + 1, by omega, by go_num, by rw [HT.out], B, bM, b6⟩
      case measure => exact meas_next hlt (by go_num)
    · obtain rfl : k = 6 := by omega
      have dec : decide ((6 : Int) < 6) = false := rfl
      have e6 : (sixM m).take 6 = sixM m := rfl
      rw [e6]
      have g8 := growc (bM.at_ (i := 8) (v := .slice m.keys.A m.keys.l.length m.keys.cap) rfl)
      have g9 := growc (bM.at_ (i := 9) (v := .string (bstr m.tenant)) rfl)
      have g10 := growc (bM.at_ (i := 10) (v := .bool m.keep) rfl)
      have l1 : Sml (spT (textsW m.keys.l)) := sml_lw (texts_lw hp.keys) (by decide)
      unfold Sml at l1
      have l2 : (wordT m.tenant).length ≤ 1000000 := wordT_len hp.tenant
      have l3 := yesT_len m.keep
      have he := Lib.hid (met_text m)
      generalize tagT m.tag ++ flT ((sixM m).map numT) = X at *
      clear e6 b6
      go_upto_region 7 with fail
      refine wp_region_grow (by kernel_rfl) (by kernel_rfl) ?_
      go_big_quiet_step (fail)
      with_reducible refine wqA (.tmp 33) spO rfl (X) ([32]) ?_
      go_frame
      go_big_quiet_step (fail)
      go_big_quiet_step (fail)
      go_big_quiet_step (first | (go_at_call 37; exact textsC_grow wr _ (hm.keys.rv.below B) hp.keys))
      with_reducible refine wqA (.tmp 34) (.tmp 37) rfl (X ++ [32]) (spT (textsW m.keys.l)) ?_
      go_frame
      with_reducible refine wqA (.tmp 38) spO rfl (X ++ [32] ++ spT (textsW m.keys.l)) ([32]) ?_
      go_frame
      go_big_quiet_step (fail)
      go_big_quiet_step (fail)
      go_big_quiet_step (first | (go_at_call 34; exact wordC_grow hp.tenant _ _))
      with_reducible refine wqA (.tmp 39) (.tmp 42) rfl (X ++ [32] ++ spT (textsW m.keys.l) ++ [32]) (wordT m.tenant) ?_
      go_frame
      with_reducible refine wqA (.tmp 43) spO rfl (X ++ [32] ++ spT (textsW m.keys.l) ++ [32] ++ wordT m.tenant) ([32]) ?_
      go_frame
      go_big_quiet_step (fail)
      go_big_quiet_step (fail)
      go_big_quiet_step (first | (go_at_call 36; exact yesC_grow _ _ _))
      with_reducible refine wqA (.tmp 44) (.tmp 47) rfl (X ++ [32] ++ spT (textsW m.keys.l) ++ [32] ++ wordT m.tenant ++ [32]) (yesT m.keep) ?_
      go_frame
      go_big_quiet_step (fail)
      refine wpQuiet_nil ?_
      rintro w' ⟨r, rfl⟩
      have BB := B.trans ((grow_below wr r).mono B.size)
      clear g8 g9 g10 bM
      go_wp2
      go_ret
      exact ⟨by rw [← he.out]; rfl, BB⟩
theorem metaC_grow (w1 r : World) {m : MetR} (hm : MetOK w1 m) (hp : MetP m.abs) : Calls Tryz.prog 35 #[.agg m.cells.toArray] (grow w1 r) fun e w' => e = .returned (.string (bstr (spT (metW m.abs)))) ∧ ∃ r', w' = grow w1 r' :=
  calls_grow (dmeta_calls m (grow w1 r) (hm.below (grow_below w1 r)) hp)
end Go.Proofs.YtiokbebodblhaaaGreatDoor
namespace Go.Proofs.YtiokbebodblhaaaGreatDoor
open Go.RowKit TraceP

theorem metW_ne (m : TraceP.Met) : metW m ≠ [] := by unfold metW; simp
theorem rep_text (y : RepR) : numT y.status ++ [32] ++ spT (metW y.met.abs) ++ [32] ++ spT (spnW y.span) ++ [32] ++ numT y.age = spT (repW y.abs) := by
  have e : repW y.abs = numT y.status :: (metW y.met.abs ++ (spnW y.span ++ [numT y.age])) := rfl
  rw [e, spT_cons _ (by simp [spnW]), spT_append (metW_ne _) (by simp), spT_append (by simp [spnW]) (by simp)]
  simp [spT]
set_option maxRecDepth 100000 in
set_option maxHeartbeats 1600000 in
theorem dreply_calls (y : RepR) (w : World) (hm : RepOK w y) (hp : RepP y.abs) :
    Calls Tryz.prog 41 #[.agg y.cells.toArray] w fun e w' => e = .returned (.string (bstr (spT (repW y.abs)))) ∧ Below w.heap.size w w' := by
  have bS := Blk.new w 42 y.cells.toArray
  have B := below_new w (.cells y.cells.toArray 42)
  have c0 := growc (bS.at_ (i := 0) (v := .int .i64 y.status) rfl)
  have c1 := growc (bS.at_ (i := 1) (v := .string (bstr y.met.tag.text)) rfl)
  have c2 := growc (bS.at_ (i := 2) (v := .bool y.met.tag.weak) rfl)
  have c3 := growc (bS.at_ (i := 3) (v := .int .i64 y.met.modi) rfl)
  have c4 := growc (bS.at_ (i := 4) (v := .int .i64 y.met.len) rfl)
  have c5 := growc (bS.at_ (i := 5) (v := .int .i64 y.met.have_) rfl)
  have c6 := growc (bS.at_ (i := 6) (v := .int .i64 y.met.fresh) rfl)
  have c7 := growc (bS.at_ (i := 7) (v := .int .i64 y.met.while_) rfl)
  have c8 := growc (bS.at_ (i := 8) (v := .int .i64 y.met.error) rfl)
  have c9 := growc (bS.at_ (i := 9) (v := .slice y.met.keys.A y.met.keys.l.length y.met.keys.cap) rfl)
  have c10 := growc (bS.at_ (i := 10) (v := .string (bstr y.met.tenant)) rfl)
  have c11 := growc (bS.at_ (i := 11) (v := .bool y.met.keep) rfl)
  have c12 := growc (bS.at_ (i := 12) (v := .int .i64 y.span.frm) rfl)
  have c13 := growc (bS.at_ (i := 13) (v := .int .i64 y.span.to) rfl)
  have c14 := growc (bS.at_ (i := 14) (v := .int .i64 y.age) rfl)
  have hm1 := hm.met.below B
  have l1 : (numT y.status).length ≤ 1000000 := numT_len hp.status
  have l2 : Sml (spT (metW y.met.abs)) := sml_lw (met_lw hp.met) (by decide)
  unfold Sml at l2
  have l3 : Sml (spT (spnW y.span)) := sml_lw (spn_lw hp.span) (by decide)
  unfold Sml at l3
  have l4 : (numT y.age).length ≤ 1000000 := numT_len hp.age
  go_enter Tryz.func41, Tryz.ntmps41
  go_upto_region 1 with (fail)
  generalize w.alloc (.cells y.cells.toArray 42) = w1 at *
  refine wp_region_grow (by kernel_rfl) (by kernel_rfl) ?_
  go_big_quiet_step (fail)
  go_big_quiet_step (fail)
  go_big_quiet_step (first | (go_at_call 33; exact numC_grow hp.status _ _))
  with_reducible refine wqA (.tmp 5) spO rfl (numT y.status) ([32]) ?_
  go_frame
  go_big_quiet_step (fail)
  go_big_quiet_step (fail)
  go_big_quiet_step (first | (go_at_call 35; exact metaC_grow _ _ hm1 hp.met))
  with_reducible refine wqA (.tmp 6) (.tmp 9) rfl (numT y.status ++ [32]) (spT (metW y.met.abs)) ?_
  go_frame
  with_reducible refine wqA (.tmp 10) spO rfl (numT y.status ++ [32] ++ spT (metW y.met.abs)) ([32]) ?_
  go_frame
  go_big_quiet_step (fail)
  go_big_quiet_step (fail)
  go_big_quiet_step (first | (go_at_call 77; exact spanC_grow (s := y.span) hp.span _ _))
  with_reducible refine wqA (.tmp 11) (.tmp 14) rfl (numT y.status ++ [32] ++ spT (metW y.met.abs) ++ [32]) (spT (spnW y.span)) ?_
  go_frame
  with_reducible refine wqA (.tmp 15) spO rfl (numT y.status ++ [32] ++ spT (metW y.met.abs) ++ [32] ++ spT (spnW y.span)) ([32]) ?_
  go_frame
  go_big_quiet_step (fail)
  go_big_quiet_step (fail)
  go_big_quiet_step (first | (go_at_call 33; exact numC_grow hp.age _ _))
  with_reducible refine wqA (.tmp 16) (.tmp 19) rfl (numT y.status ++ [32] ++ spT (metW y.met.abs) ++ [32] ++ spT (spnW y.span) ++ [32]) (numT y.age) ?_
  go_frame
  go_big_quiet_step (fail)
  refine wpQuiet_nil ?_
  rintro w' ⟨r, rfl⟩
  have BB := B.trans ((grow_below w1 r).mono B.size)
  clear c0 c1 c2 c3 c4 c5 c6 c7 c8 c9 c10 c11 c12 c13 c14 bS
  go_wp2
  go_ret
  refine ⟨?_, BB⟩
  rw [← rep_text y]
  rfl
theorem replyC_grow (w1 r0 : World) {y : RepR} (hm : RepOK w1 y) (hp : RepP y.abs) : Calls Tryz.prog 41 #[.agg y.cells.toArray] (grow w1 r0) fun e w' => e = .returned (.string (bstr (spT (repW y.abs)))) ∧ ∃ r', w' = grow w1 r' :=
  calls_grow (dreply_calls y (grow w1 r0) (hm.below (grow_below w1 r0)) hp)
end Go.Proofs.YtiokbebodblhaaaGreatDoor
namespace Go.Proofs.YtiokbebodblhaaaGreatDoor
open Go.RowKit TraceP

theorem ans_text (st : Int) (fl1 : List Fld) (pl : List Prt) (sz : Int) : numT st ++ flT (numT fl1.length :: fl1.flatMap fldW ++ ([numT pl.length] ++ pl.flatMap prtW)) ++ [32] ++ numT sz = spT (ansW ⟨st, fl1, pl, sz⟩) := by
  have e : ansW ⟨st, fl1, pl, sz⟩ = numT st :: (fldsW fl1 ++ (prtsW pl ++ [numT sz])) := rfl
  rw [e, spT_fl]
  simp [flT, fldsW, prtsW]
set_option maxRecDepth 100000 in
set_option maxHeartbeats 1600000 in
theorem dansw_calls (y : AnsR) (w : World) (hm : AnsOK w y) (hp : AnsP y.abs) :
    Calls Tryz.prog 39 #[.agg y.cells.toArray] w fun e w' => e = .returned (.string (bstr (spT (ansW y.abs)))) ∧ Below w.heap.size w w' := by
  obtain ⟨st, ⟨fA, fc, fl1⟩, ⟨pA, pc, pl⟩, sz⟩ := y
  have hst : I64 st := hp.status
  have hsz : I64 sz := hp.size
  have hF : LstP 100001 FldI fl1 := hp.fields
  have hP : LstP 100001 PrtI pl := hp.parts
  have hfr : RV w fA (fl fdC fl1) := hm.fields.rv
  have hpr : RV w pA (fl ptC pl) := hm.parts.rv
  have hfl : I64 (fl1.length : Int) := by have := hF.1; exact ⟨by omega, by omega⟩
  have hpl : I64 (pl.length : Int) := by have := hP.1; exact ⟨by omega, by omega⟩
  have l1 := numT_len hst
  have l2 := numT_len hfl
  have l3 := numT_len hpl
  have l4 := numT_len hsz
  have hz : numT st ++ [32] ++ numT (fl1.length : Int) = numT st ++ flT ([numT (fl1.length : Int)] ++ (fl1.take 0).flatMap fldW) := by simp [flT]
  show Calls _ _ _ _ fun e w' => e = .returned (.string (bstr (spT (ansW ⟨st, fl1, pl, sz⟩)))) ∧ Below w.heap.size w w'
  have he := Lib.hid (ans_text st fl1 pl sz)
  clear hm hp
  have bM := Blk.new w 36 (AnsR.mk st ⟨fA, fc, fl1⟩ ⟨pA, pc, pl⟩ sz).cells.toArray
  have B := below_new w (.cells (AnsR.mk st ⟨fA, fc, fl1⟩ ⟨pA, pc, pl⟩ sz).cells.toArray 36)
  have c0 := growc (bM.at_ (i := 0) (v := .int .i64 st) rfl)
  have c1 := growc (bM.at_ (i := 1) (v := .slice fA fl1.length fc) rfl)
  have c2 := growc (bM.at_ (i := 2) (v := .slice pA pl.length pc) rfl)
  have c3 := growc (bM.at_ (i := 3) (v := .int .i64 sz) rfl)
  go_enter Tryz.func39, Tryz.ntmps39
  go_upto_region 1 with (fail)
  generalize w.alloc (.cells (AnsR.mk st ⟨fA, fc, fl1⟩ ⟨pA, pc, pl⟩ sz).cells.toArray 36) = w1 at *
  refine wp_region_grow (by kernel_rfl) (by kernel_rfl) ?_
  go_big_quiet_step (fail)
  go_big_quiet_step (fail)
  go_big_quiet_step (first | (go_at_call 33; exact numC_grow hst _ _))
  with_reducible refine wqA (.tmp 10) spO rfl (numT st) ([32]) ?_
  go_frame
  go_big_quiet_step (fail)
  go_big_quiet_step (fail)
  go_big_quiet_step (fail)
  go_big_quiet_step (first | (go_at_call 33; exact numC_grow hfl _ _))
  with_reducible refine wqA (.tmp 11) (.tmp 15) rfl (numT st ++ [32]) (numT (fl1.length : Int)) ?_
  go_frame
  go_big_quiet_step (fail)
  refine wpQuiet_nil ?_
  rintro w' ⟨r, rfl⟩
  have BB := B.trans ((grow_below w1 r).mono B.size)
  have bM2 := bM.below (grow_below w1 r) bM.lt
  clear c0 c1 c2 c3 bM B
  obtain ⟨bM, B⟩ : _ ∧ _ := ⟨bM2, BB⟩
  clear bM2 BB
  generalize grow w1 r = w2 at *
  have c0 := bM.at_ (i := 0) (v := .int .i64 st) rfl
  have c1 := bM.at_ (i := 1) (v := .slice fA fl1.length fc) rfl
  have c2 := bM.at_ (i := 2) (v := .slice pA pl.length pc) rfl
  have c3 := bM.at_ (i := 3) (v := .int .i64 sz) rfl
  rw [hz]
  clear hz
  go_wp2_with fail
  go_loopw [3, 20] (fun s i wr => ∃ k : Nat, k ≤ fl1.length ∧ i = .int .i64 (k : Int) ∧ s = .string (bstr (numT st ++ flT ([numT (fl1.length : Int)] ++ (fl1.take k).flatMap fldW))) ∧ Below w.heap.size w wr ∧ Blk wr w.heap.size 36 (AnsR.mk st ⟨fA, fc, fl1⟩ ⟨pA, pc, pl⟩ sz).cells.toArray) (fun _ i _ => fl1.length - (intOf i).toNat)
  case atStart => exact ⟨0, by omega, rfl, by simp [flT], B, bM⟩
  case round =>
    clear bM B
    obtain ⟨k, hk, rfl, rfl, B, bM⟩ := hrel
    by_cases hlt : k < fl1.length
    · have dec : decide ((k : Int) < (fl1.length : Int)) = true := decide_eq_true (by omega)
      have dec' : decide (k < fl1.length) = true := decide_eq_true hlt
      have wk : wrap64 ((k : Int) + 1) = (k : Int) + 1 := by have := hF.1; unfold wrap64; omega
      have HL : ((numT st ++ flT ([numT (fl1.length : Int)] ++ (fl1.take k).flatMap fldW))).length ≤ 1000000000000 := by
        rw [← spT_fl]
        exact sml_lw (n := 999000) ((Lw.cons l1 (Lw.append (Lw.cons l2 Lw.nil) (Lw.flat (P := FldI) (j := 2) (fun a h => Lw.cons (wordT_len h.1) (Lw.cons (wordT_len h.2) Lw.nil)) (fl1.take k) (fun a ha => hF.2 a (List.mem_of_mem_take ha))))).mono (by rw [List.length_take]; have := hF.1; omega)) (by decide)
      have hx := hF.2 _ (List.getElem_mem hlt)
      obtain ⟨b, off, rfl, hbs, hc, hc1⟩ := fl_elem2 fdC_len (hfr.below B) hlt
      have HT : Hid ((numT st ++ flT ([numT (fl1.length : Int)] ++ (fl1.take (k + 1)).flatMap fldW)) = (numT st ++ flT ([numT (fl1.length : Int)] ++ (fl1.take k).flatMap fldW)) ++ flT (fldW fl1[k])) := Lib.hid (by rw [flat_take_succ _ hlt]; simp only [flT_append, List.append_assoc])
      generalize (numT st ++ flT ([numT (fl1.length : Int)] ++ (fl1.take k).flatMap fldW)) = X at *
      generalize fl1[k] = a at *
      have x0 := hc (.string (bstr a.name)) rfl
      have x1 := hc1 (.string (bstr a.value)) rfl
      clear hc hc1
      have n1 := wordT_len hx.1
      have n2 := wordT_len hx.2
      go_upto_region 5 with fail
      have bE := Blk.new wr 76 #[.string (bstr a.name), .string (bstr a.value)]
      have bM3 := bM.alloc (.cells #[.string (bstr a.name), .string (bstr a.value)] 76)
      have B3 := B.trans ((below_new wr (.cells #[.string (bstr a.name), .string (bstr a.value)] 76)).mono B.size)
      clear bM B
      generalize wr.alloc (.cells #[.string (bstr a.name), .string (bstr a.value)] 76) = w3 at *
      have e0 := growc (bE.at_ (i := 0) (v := .string (bstr a.name)) rfl)
      have e1 := growc (bE.at_ (i := 1) (v := .string (bstr a.value)) rfl)
      refine wp_region_grow (by kernel_rfl) (by kernel_rfl) ?_
      go_big_quiet_step (fail)
      with_reducible refine wqA (.tmp 24) spO rfl (X) ([32]) ?_
      go_frame
      go_big_quiet_step (fail)
      go_big_quiet_step (fail)
      go_big_quiet_step (first | (go_at_call 34; exact wordC_grow hx.1 _ _))
      with_reducible refine wqA (.tmp 25) (.tmp 28) rfl (X ++ [32]) (wordT a.name) ?_
      go_frame
      with_reducible refine wqA (.tmp 29) spO rfl (X ++ [32] ++ wordT a.name) ([32]) ?_
      go_frame
      go_big_quiet_step (fail)
      go_big_quiet_step (fail)
      go_big_quiet_step (first | (go_at_call 34; exact wordC_grow hx.2 _ _))
      with_reducible refine wqA (.tmp 30) (.tmp 33) rfl (X ++ [32] ++ wordT a.name ++ [32]) (wordT a.value) ?_
      go_frame
      go_big_quiet_step (fail)
      refine wpQuiet_nil ?_
      rintro w4 ⟨r, rfl⟩
      have B4 := B3.trans ((grow_below w3 r).mono B3.size)
      have bM4 := bM3.below (grow_below w3 r) bM3.lt
      clear bE bM3 B3 x0 e0 x1 e1
      go_wp2_with fail
      go_roundw
      case rel => exact ⟨k + 1, by omega, by go_num, by rw [HT.out]; exact congrArg (fun t => Value.string (bstr t)) (by simp [flT, fldW]), B4, bM4⟩
      case measure => exact meas_next hlt (by go_num)
    · obtain rfl : k = fl1.length := by omega
      have dec : decide ((fl1.length : Int) < (fl1.length : Int)) = false := decide_eq_false (by omega)
      rw [List.take_length]
      have HL : (numT st ++ flT ([numT (fl1.length : Int)] ++ fl1.flatMap fldW)).length ≤ 1000000000000 := by
        rw [← spT_fl]
        exact sml_lw (n := 999000) ((Lw.cons l1 (Lw.append (Lw.cons l2 Lw.nil) (Lw.flat (P := FldI) (j := 2) (fun a h => Lw.cons (wordT_len h.1) (Lw.cons (wordT_len h.2) Lw.nil)) fl1 hF.2))).mono (by have := hF.1; omega)) (by decide)
      have hz : numT st ++ flT ([numT (fl1.length : Int)] ++ fl1.flatMap fldW) ++ [32] ++ numT (pl.length : Int) = numT st ++ flT ((numT (fl1.length : Int) :: fl1.flatMap fldW ++ [numT (pl.length : Int)]) ++ (pl.take 0).flatMap prtW) := by simp [flT]
      generalize numT st ++ flT ([numT (fl1.length : Int)] ++ fl1.flatMap fldW) = X at *
      have c0 := bM.at_ (i := 0) (v := .int .i64 st) rfl
      have c1 := bM.at_ (i := 1) (v := .slice fA fl1.length fc) rfl
      have c2 := bM.at_ (i := 2) (v := .slice pA pl.length pc) rfl
      have c3 := bM.at_ (i := 3) (v := .int .i64 sz) rfl
      go_upto_region 7 with fail
      with_reducible refine wp_region_lit ?_
      with_reducible refine wpList_cutAt 1 ?_
      simp only [List.take_succ_cons, List.take_zero, List.drop_succ_cons, List.drop_zero]
      repeat (first | go_values | go_skip | go_guarded | go_step | go_upon)
      with_reducible refine CutQ.go_ ?_
      with_reducible refine wpList_add (by kernel_rfl) _ (.tmp 36) spO rfl (X) ([32]) (by kernel_rfl) (by kernel_rfl) (by simp only [List.length_cons, List.length_nil]; omega) ?_
      go_frame
      with_reducible refine wpList_cutAt 4 ?_
      simp only [List.take_succ_cons, List.take_zero, List.drop_succ_cons, List.drop_zero]
      go_wp2_with (go_at_call 33; refine (dnum_calls (pl.length : Int) hpl wr).mono ?_; rintro _ wq ⟨rfl, rfl⟩)
      with_reducible refine CutQ.go_ ?_
      with_reducible refine wpList_add (by kernel_rfl) _ (.tmp 37) (.tmp 41) rfl (X ++ [32]) (numT (pl.length : Int)) (by kernel_rfl) (by kernel_rfl) (by simp only [List.length_append, List.length_cons, List.length_nil]; omega) ?_
      go_frame
      rw [hz]
      clear hz HL
      go_wp2_with fail
      have hPre : Lw 200004 (numT (fl1.length : Int) :: fl1.flatMap fldW ++ [numT (pl.length : Int)]) := ((Lw.cons l2 (Lw.flat (P := FldI) (j := 2) (fun a h => Lw.cons (wordT_len h.1) (Lw.cons (wordT_len h.2) Lw.nil)) fl1 hF.2)).append (Lw.cons l3 Lw.nil)).mono (by have := hF.1; omega)
      go_loopw [3, 46] (fun s i wr => ∃ k : Nat, k ≤ pl.length ∧ i = .int .i64 (k : Int) ∧ s = .string (bstr (numT st ++ flT ((numT (fl1.length : Int) :: fl1.flatMap fldW ++ [numT (pl.length : Int)]) ++ (pl.take k).flatMap prtW))) ∧ Below w.heap.size w wr ∧ Blk wr w.heap.size 36 (AnsR.mk st ⟨fA, fc, fl1⟩ ⟨pA, pc, pl⟩ sz).cells.toArray) (fun _ i _ => pl.length - (intOf i).toNat)
      case atStart => exact ⟨0, by omega, rfl, by simp [flT], B, bM⟩
      case round =>
        clear bM B
        obtain ⟨k, hk, rfl, rfl, B, bM⟩ := hrel
        by_cases hlt : k < pl.length
        · have dec : decide ((k : Int) < (pl.length : Int)) = true := decide_eq_true (by omega)
          have dec' : decide (k < pl.length) = true := decide_eq_true hlt
          have wk : wrap64 ((k : Int) + 1) = (k : Int) + 1 := by have := hP.1; unfold wrap64; omega
          have HL : ((numT st ++ flT ((numT (fl1.length : Int) :: fl1.flatMap fldW ++ [numT (pl.length : Int)]) ++ (pl.take k).flatMap prtW))).length ≤ 1000000000000 := by
            rw [← spT_fl]
            exact sml_lw (n := 999000) ((Lw.cons l1 (Lw.append hPre (Lw.flat (P := PrtI) (j := 3) (fun a h => Lw.cons (wordT_len h.1) (spn_lw h.2)) (pl.take k) (fun a ha => hP.2 a (List.mem_of_mem_take ha))))).mono (by rw [List.length_take]; have := hP.1; omega)) (by decide)
          have hx := hP.2 _ (List.getElem_mem hlt)
          obtain ⟨b, off, rfl, hbs, hc, hc1, hc2⟩ := fl_elem3 ptC_len (hpr.below B) hlt
          have HT : Hid ((numT st ++ flT ((numT (fl1.length : Int) :: fl1.flatMap fldW ++ [numT (pl.length : Int)]) ++ (pl.take (k + 1)).flatMap prtW)) = (numT st ++ flT ((numT (fl1.length : Int) :: fl1.flatMap fldW ++ [numT (pl.length : Int)]) ++ (pl.take k).flatMap prtW)) ++ flT (prtW pl[k])) := Lib.hid (by rw [flat_take_succ _ hlt]; simp only [flT_append, List.append_assoc])
          generalize (numT st ++ flT ((numT (fl1.length : Int) :: fl1.flatMap fldW ++ [numT (pl.length : Int)]) ++ (pl.take k).flatMap prtW)) = X at *
          generalize pl[k] = a at *
          have x0 := hc (.string (bstr a.text)) rfl
          have x1 := hc1 (.int .i64 a.span.frm) rfl
          have x2 := hc2 (.int .i64 a.span.to) rfl
          clear hc hc1 hc2
          have n1 := wordT_len hx.1
          have n2 : Sml (spT (spnW a.span)) := sml_lw (spn_lw hx.2) (by decide)
          unfold Sml at n2
          go_upto_region 11 with fail
          have bE := Blk.new wr 78 #[.string (bstr a.text), .int .i64 a.span.frm, .int .i64 a.span.to]
          have bM3 := bM.alloc (.cells #[.string (bstr a.text), .int .i64 a.span.frm, .int .i64 a.span.to] 78)
          have B3 := B.trans ((below_new wr (.cells #[.string (bstr a.text), .int .i64 a.span.frm, .int .i64 a.span.to] 78)).mono B.size)
          clear bM B
          generalize wr.alloc (.cells #[.string (bstr a.text), .int .i64 a.span.frm, .int .i64 a.span.to] 78) = w3 at *
          have e0 := growc (bE.at_ (i := 0) (v := .string (bstr a.text)) rfl)
          have e1 := growc (bE.at_ (i := 1) (v := .int .i64 a.span.frm) rfl)
          have e2 := growc (bE.at_ (i := 2) (v := .int .i64 a.span.to) rfl)
          refine wp_region_grow (by kernel_rfl) (by kernel_rfl) ?_
          go_big_quiet_step (fail)
          with_reducible refine wqA (.tmp 50) spO rfl (X) ([32]) ?_
          go_frame
          go_big_quiet_step (fail)
          go_big_quiet_step (fail)
          go_big_quiet_step (first | (go_at_call 34; exact wordC_grow hx.1 _ _))
          with_reducible refine wqA (.tmp 51) (.tmp 54) rfl (X ++ [32]) (wordT a.text) ?_
          go_frame
          with_reducible refine wqA (.tmp 55) spO rfl (X ++ [32] ++ wordT a.text) ([32]) ?_
          go_frame
          go_big_quiet_step (fail)
          go_big_quiet_step (fail)
          go_big_quiet_step (first | (go_at_call 77; exact spanC_grow (s := a.span) hx.2 _ _))
          with_reducible refine wqA (.tmp 56) (.tmp 59) rfl (X ++ [32] ++ wordT a.text ++ [32]) (spT (spnW a.span)) ?_
          go_frame
          go_big_quiet_step (fail)
          refine wpQuiet_nil ?_
          rintro w4 ⟨r, rfl⟩
          have B4 := B3.trans ((grow_below w3 r).mono B3.size)
          have bM4 := bM3.below (grow_below w3 r) bM3.lt
          clear bE bM3 B3 x0 e0 x1 e1 x2 e2
          go_wp2_with fail
          go_roundw
          case rel => exact ⟨k + 1, by omega, by go_num, by rw [HT.out]; exact congrArg (fun t => Value.string (bstr t)) (by simp [flT, prtW, spnW, spT]), B4, bM4⟩
          case measure => exact meas_next hlt (by go_num)
        · obtain rfl : k = pl.length := by omega
          have dec : decide ((pl.length : Int) < (pl.length : Int)) = false := decide_eq_false (by omega)
          rw [List.take_length]
          have HL : (numT st ++ flT ((numT (fl1.length : Int) :: fl1.flatMap fldW ++ [numT (pl.length : Int)]) ++ pl.flatMap prtW)).length ≤ 1000000000000 := by
            rw [← spT_fl]
            exact sml_lw (n := 999000) ((Lw.cons l1 (Lw.append hPre (Lw.flat (P := PrtI) (j := 3) (fun a h => Lw.cons (wordT_len h.1) (spn_lw h.2)) pl hP.2))).mono (by have := hP.1; omega)) (by decide)
          have he2 : Hid (numT st ++ flT ((numT (fl1.length : Int) :: fl1.flatMap fldW ++ [numT (pl.length : Int)]) ++ pl.flatMap prtW) ++ [32] ++ numT sz = spT (ansW ⟨st, fl1, pl, sz⟩)) := Lib.hid (by rw [← he.out]; simp [flT])
          clear he
          generalize numT st ++ flT ((numT (fl1.length : Int) :: fl1.flatMap fldW ++ [numT (pl.length : Int)]) ++ pl.flatMap prtW) = X at *
          have c0 := bM.at_ (i := 0) (v := .int .i64 st) rfl
          have c1 := bM.at_ (i := 1) (v := .slice fA fl1.length fc) rfl
          have c2 := bM.at_ (i := 2) (v := .slice pA pl.length pc) rfl
          have c3 := bM.at_ (i := 3) (v := .int .i64 sz) rfl
          go_upto_region 13 with fail
          with_reducible refine wp_region_lit ?_
          with_reducible refine wpList_cutAt 1 ?_
          simp only [List.take_succ_cons, List.take_zero, List.drop_succ_cons, List.drop_zero]
          repeat (first | go_values | go_skip | go_guarded | go_step | go_upon)
          with_reducible refine CutQ.go_ ?_
          with_reducible refine wpList_add (by kernel_rfl) _ (.tmp 62) spO rfl (X) ([32]) (by kernel_rfl) (by kernel_rfl) (by simp only [List.length_cons, List.length_nil]; omega) ?_
          go_frame
          with_reducible refine wpList_cutAt 3 ?_
          simp only [List.take_succ_cons, List.take_zero, List.drop_succ_cons, List.drop_zero]
          go_wp2_with (go_at_call 33; refine (dnum_calls sz hsz wr).mono ?_; rintro _ wq ⟨rfl, rfl⟩)
          with_reducible refine CutQ.go_ ?_
          with_reducible refine wpList_add (by kernel_rfl) _ (.tmp 63) (.tmp 66) rfl (X ++ [32]) (numT sz) (by kernel_rfl) (by kernel_rfl) (by simp only [List.length_append, List.length_cons, List.length_nil]; omega) ?_
          go_frame
          go_wp2_with fail
          go_ret
          exact ⟨by rw [← he2.out]; rfl, B⟩
theorem answC_grow (w1 r0 : World) {y : AnsR} (hm : AnsOK w1 y) (hp : AnsP y.abs) : Calls Tryz.prog 39 #[.agg y.cells.toArray] (grow w1 r0) fun e w' => e = .returned (.string (bstr (spT (ansW y.abs)))) ∧ ∃ r', w' = grow w1 r' :=
  calls_grow (dansw_calls y (grow w1 r0) (hm.below (grow_below w1 r0)) hp)
end Go.Proofs.YtiokbebodblhaaaGreatDoor
