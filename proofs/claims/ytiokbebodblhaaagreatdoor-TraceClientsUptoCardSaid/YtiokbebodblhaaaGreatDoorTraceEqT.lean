/-
  Walks: slices.Equal at tags, spans, fields, parts, texts, bytes. Printed by eqgen.py.
-/
import Derived.Test.YtiokbebodblhaaaGreatDoorTWri
namespace Go.Proofs.YtiokbebodblhaaaGreatDoor
open Go.RowKit TraceP

noncomputable def sm {α : Type} (a b : α) : Bool := @decide (a = b) (Classical.propDecidable _)
theorem sm_iff {α : Type} (a b : α) : sm a b = true ↔ a = b := by
  unfold sm
  exact @decide_eq_true_iff _ (Classical.propDecidable _)
theorem sm_true {α : Type} {a b : α} (h : a = b) : sm a b = true := (sm_iff a b).2 h
theorem sm_false {α : Type} {a b : α} (h : a ≠ b) : sm a b = false := by
  cases e : sm a b
  · rfl
  · exact absurd ((sm_iff a b).1 e) h
theorem bstr_ne {a b : Txt} (h : a ≠ b) : ((bstr a).toList = (bstr b).toList) = False := by
  rw [bstr_list, bstr_list]; exact eq_false h
set_option maxHeartbeats 1600000 in
theorem eqtags_calls (w : World) (A A' : Option Addr) (c c' : Nat) (l l' : List Tag) (hr : RV w A (fl tgC l)) (hr' : RV w A' (fl tgC l')) (hb : l.length ≤ 9223372036854775807) :
    Calls Tryz.prog 137 #[.slice A l.length c, .slice A' l'.length c'] w fun e w' => e = .returned (.bool (sm l l')) ∧ Below w.heap.size w w' := by
  by_cases hl : l.length = l'.length
  · have dl : ((l.length : Int) == (l'.length : Int)) = true := beq_iff_eq.2 (by omega)
    have dl2 : ((l.length : Int) != (l'.length : Int)) = false := by rw [bne, dl]; rfl
    go_enter Tryz.func137, Tryz.ntmps137
    go_wp2_with fail
    go_loopw [5, 13] (fun _ i wr => ∃ k : Nat, k ≤ l.length ∧ i = .int .i64 (k : Int) ∧ l.take k = l'.take k ∧ Below w.heap.size w wr) (fun _ i _ => l.length - (intOf i).toNat)
    case atStart => exact ⟨0, by omega, rfl, rfl, Below.refl _ _⟩
    case round =>
      obtain ⟨k, hk, rfl, ht, B⟩ := hrel
      by_cases hlt : k < l.length
      · have dec : decide ((k : Int) < (l.length : Int)) = true := decide_eq_true (by omega)
        have dec' : decide (k < l.length) = true := decide_eq_true hlt
        have hlt' : k < l'.length := by omega
        have dec3 : decide ((k : Int) < (l'.length : Int)) = true := decide_eq_true (by omega)
        have dec3' : decide (k < l'.length) = true := decide_eq_true (by omega)
        obtain ⟨b, off, rfl, hbs, hc, hc1⟩ := fl_elem2 tgC_len (hr.below B) hlt
        obtain ⟨b', off', rfl, hbs', hc', hc1'⟩ := fl_elem2 tgC_len (hr'.below B) hlt'
        have HT : Hid (l[k] = l'[k] → l.take (k + 1) = l'.take (k + 1)) := by
          intro e
          rw [List.take_succ_eq_append_getElem hlt, List.take_succ_eq_append_getElem hlt', ht, e]
        have HN : Hid (l[k] ≠ l'[k] → l ≠ l') := fun h e => h (by subst e; rfl)
        have x0 := hc (.string (bstr l[k].text)) rfl
        have y0 := hc' (.string (bstr l'[k].text)) rfl
        have x1 := hc1 (.bool l[k].weak) rfl
        have y1 := hc1' (.bool l'[k].weak) rfl
        generalize l[k] = x at *
        generalize l'[k] = y at *
        clear hc hc1 hc' hc1' ht
        by_cases hxy : x = y
        · subst hxy
          have HT2 := Lib.hid (HT.out rfl)
          clear HT HN
          go_wp2_with fail
          go_region
          go_wp2_with fail
          go_roundw
          case rel => exact ⟨k + 1, by omega, by go_num, HT2.out, B.drew⟩
          case measure => first | (simp [intOf]; omega) | (go_num; omega)
        · have HF := Lib.hid (sm_false (HN.out hxy))
          clear HT HN
          by_cases h0 : ¬ x.text = y.text
          · have q := bstr_ne h0
            clear hxy h0
            go_wp2_with fail
            go_region
            go_wp2_with fail
            go_ret
            exact ⟨by rw [HF.out]; rfl, B.drew⟩
          replace h0 := Classical.not_not.1 h0
          by_cases h1 : ¬ x.weak = y.weak
          · have q := eq_false h1
            clear hxy h1
            rw [← h0] at y0
            clear h0
            go_wp2_with fail
            go_region
            go_wp2_with fail
            go_ret
            exact ⟨by rw [HF.out]; rfl, B.drew⟩
          replace h1 := Classical.not_not.1 h1
          exfalso
          cases x
          cases y
          simp only at h0 h1
          subst h0
          subst h1
          exact hxy rfl
      · obtain rfl : k = l.length := by omega
        have dec : decide ((l.length : Int) < (l.length : Int)) = false := decide_eq_false (by omega)
        rw [List.take_length, hl, List.take_length] at ht
        have HF := Lib.hid (sm_true ht)
        clear ht
        go_wp2_with fail
        go_ret
        exact ⟨by rw [HF.out]; rfl, B⟩
  · have dl2 : ((l.length : Int) != (l'.length : Int)) = true := bne_iff_ne.2 (by omega)
    have HF := Lib.hid (sm_false (a := l) (b := l') (fun e => hl (by rw [e])))
    go_enter Tryz.func137, Tryz.ntmps137
    go_wp2_with fail
    go_ret
    exact ⟨by rw [HF.out]; rfl, Below.refl _ _⟩
set_option maxHeartbeats 1600000 in
theorem eqspecs_calls (w : World) (A A' : Option Addr) (c c' : Nat) (l l' : List Spn) (hr : RV w A (fl spC l)) (hr' : RV w A' (fl spC l')) (hb : l.length ≤ 9223372036854775807) :
    Calls Tryz.prog 136 #[.slice A l.length c, .slice A' l'.length c'] w fun e w' => e = .returned (.bool (sm l l')) ∧ Below w.heap.size w w' := by
  by_cases hl : l.length = l'.length
  · have dl : ((l.length : Int) == (l'.length : Int)) = true := beq_iff_eq.2 (by omega)
    have dl2 : ((l.length : Int) != (l'.length : Int)) = false := by rw [bne, dl]; rfl
    go_enter Tryz.func136, Tryz.ntmps136
    go_wp2_with fail
    go_loopw [5, 13] (fun _ i wr => ∃ k : Nat, k ≤ l.length ∧ i = .int .i64 (k : Int) ∧ l.take k = l'.take k ∧ Below w.heap.size w wr) (fun _ i _ => l.length - (intOf i).toNat)
    case atStart => exact ⟨0, by omega, rfl, rfl, Below.refl _ _⟩
    case round =>
      obtain ⟨k, hk, rfl, ht, B⟩ := hrel
      by_cases hlt : k < l.length
      · have dec : decide ((k : Int) < (l.length : Int)) = true := decide_eq_true (by omega)
        have dec' : decide (k < l.length) = true := decide_eq_true hlt
        have hlt' : k < l'.length := by omega
        have dec3 : decide ((k : Int) < (l'.length : Int)) = true := decide_eq_true (by omega)
        have dec3' : decide (k < l'.length) = true := decide_eq_true (by omega)
        obtain ⟨b, off, rfl, hbs, hc, hc1⟩ := fl_elem2 spC_len (hr.below B) hlt
        obtain ⟨b', off', rfl, hbs', hc', hc1'⟩ := fl_elem2 spC_len (hr'.below B) hlt'
        have HT : Hid (l[k] = l'[k] → l.take (k + 1) = l'.take (k + 1)) := by
          intro e
          rw [List.take_succ_eq_append_getElem hlt, List.take_succ_eq_append_getElem hlt', ht, e]
        have HN : Hid (l[k] ≠ l'[k] → l ≠ l') := fun h e => h (by subst e; rfl)
        have x0 := hc (.int .i64 l[k].frm) rfl
        have y0 := hc' (.int .i64 l'[k].frm) rfl
        have x1 := hc1 (.int .i64 l[k].to) rfl
        have y1 := hc1' (.int .i64 l'[k].to) rfl
        generalize l[k] = x at *
        generalize l'[k] = y at *
        clear hc hc1 hc' hc1' ht
        by_cases hxy : x = y
        · subst hxy
          have HT2 := Lib.hid (HT.out rfl)
          clear HT HN
          go_wp2_with fail
          go_region
          go_wp2_with fail
          go_roundw
          case rel => exact ⟨k + 1, by omega, by go_num, HT2.out, B.drew⟩
          case measure => first | (simp [intOf]; omega) | (go_num; omega)
        · have HF := Lib.hid (sm_false (HN.out hxy))
          clear HT HN
          by_cases h0 : ¬ x.frm = y.frm
          · have q := eq_false h0
            clear hxy h0
            go_wp2_with fail
            go_region
            go_wp2_with fail
            go_ret
            exact ⟨by rw [HF.out]; rfl, B.drew⟩
          replace h0 := Classical.not_not.1 h0
          by_cases h1 : ¬ x.to = y.to
          · have q := eq_false h1
            clear hxy h1
            rw [← h0] at y0
            clear h0
            go_wp2_with fail
            go_region
            go_wp2_with fail
            go_ret
            exact ⟨by rw [HF.out]; rfl, B.drew⟩
          replace h1 := Classical.not_not.1 h1
          exfalso
          cases x
          cases y
          simp only at h0 h1
          subst h0
          subst h1
          exact hxy rfl
      · obtain rfl : k = l.length := by omega
        have dec : decide ((l.length : Int) < (l.length : Int)) = false := decide_eq_false (by omega)
        rw [List.take_length, hl, List.take_length] at ht
        have HF := Lib.hid (sm_true ht)
        clear ht
        go_wp2_with fail
        go_ret
        exact ⟨by rw [HF.out]; rfl, B⟩
  · have dl2 : ((l.length : Int) != (l'.length : Int)) = true := bne_iff_ne.2 (by omega)
    have HF := Lib.hid (sm_false (a := l) (b := l') (fun e => hl (by rw [e])))
    go_enter Tryz.func136, Tryz.ntmps136
    go_wp2_with fail
    go_ret
    exact ⟨by rw [HF.out]; rfl, Below.refl _ _⟩
set_option maxHeartbeats 1600000 in
theorem eqflds_calls (w : World) (A A' : Option Addr) (c c' : Nat) (l l' : List Fld) (hr : RV w A (fl fdC l)) (hr' : RV w A' (fl fdC l')) (hb : l.length ≤ 9223372036854775807) :
    Calls Tryz.prog 138 #[.slice A l.length c, .slice A' l'.length c'] w fun e w' => e = .returned (.bool (sm l l')) ∧ Below w.heap.size w w' := by
  by_cases hl : l.length = l'.length
  · have dl : ((l.length : Int) == (l'.length : Int)) = true := beq_iff_eq.2 (by omega)
    have dl2 : ((l.length : Int) != (l'.length : Int)) = false := by rw [bne, dl]; rfl
    go_enter Tryz.func138, Tryz.ntmps138
    go_wp2_with fail
    go_loopw [5, 13] (fun _ i wr => ∃ k : Nat, k ≤ l.length ∧ i = .int .i64 (k : Int) ∧ l.take k = l'.take k ∧ Below w.heap.size w wr) (fun _ i _ => l.length - (intOf i).toNat)
    case atStart => exact ⟨0, by omega, rfl, rfl, Below.refl _ _⟩
    case round =>
      obtain ⟨k, hk, rfl, ht, B⟩ := hrel
      by_cases hlt : k < l.length
      · have dec : decide ((k : Int) < (l.length : Int)) = true := decide_eq_true (by omega)
        have dec' : decide (k < l.length) = true := decide_eq_true hlt
        have hlt' : k < l'.length := by omega
        have dec3 : decide ((k : Int) < (l'.length : Int)) = true := decide_eq_true (by omega)
        have dec3' : decide (k < l'.length) = true := decide_eq_true (by omega)
        obtain ⟨b, off, rfl, hbs, hc, hc1⟩ := fl_elem2 fdC_len (hr.below B) hlt
        obtain ⟨b', off', rfl, hbs', hc', hc1'⟩ := fl_elem2 fdC_len (hr'.below B) hlt'
        have HT : Hid (l[k] = l'[k] → l.take (k + 1) = l'.take (k + 1)) := by
          intro e
          rw [List.take_succ_eq_append_getElem hlt, List.take_succ_eq_append_getElem hlt', ht, e]
        have HN : Hid (l[k] ≠ l'[k] → l ≠ l') := fun h e => h (by subst e; rfl)
        have x0 := hc (.string (bstr l[k].name)) rfl
        have y0 := hc' (.string (bstr l'[k].name)) rfl
        have x1 := hc1 (.string (bstr l[k].value)) rfl
        have y1 := hc1' (.string (bstr l'[k].value)) rfl
        generalize l[k] = x at *
        generalize l'[k] = y at *
        clear hc hc1 hc' hc1' ht
        by_cases hxy : x = y
        · subst hxy
          have HT2 := Lib.hid (HT.out rfl)
          clear HT HN
          go_wp2_with fail
          go_region
          go_wp2_with fail
          go_roundw
          case rel => exact ⟨k + 1, by omega, by go_num, HT2.out, B.drew⟩
          case measure => first | (simp [intOf]; omega) | (go_num; omega)
        · have HF := Lib.hid (sm_false (HN.out hxy))
          clear HT HN
          by_cases h0 : ¬ x.name = y.name
          · have q := bstr_ne h0
            clear hxy h0
            go_wp2_with fail
            go_region
            go_wp2_with fail
            go_ret
            exact ⟨by rw [HF.out]; rfl, B.drew⟩
          replace h0 := Classical.not_not.1 h0
          by_cases h1 : ¬ x.value = y.value
          · have q := bstr_ne h1
            clear hxy h1
            rw [← h0] at y0
            clear h0
            go_wp2_with fail
            go_region
            go_wp2_with fail
            go_ret
            exact ⟨by rw [HF.out]; rfl, B.drew⟩
          replace h1 := Classical.not_not.1 h1
          exfalso
          cases x
          cases y
          simp only at h0 h1
          subst h0
          subst h1
          exact hxy rfl
      · obtain rfl : k = l.length := by omega
        have dec : decide ((l.length : Int) < (l.length : Int)) = false := decide_eq_false (by omega)
        rw [List.take_length, hl, List.take_length] at ht
        have HF := Lib.hid (sm_true ht)
        clear ht
        go_wp2_with fail
        go_ret
        exact ⟨by rw [HF.out]; rfl, B⟩
  · have dl2 : ((l.length : Int) != (l'.length : Int)) = true := bne_iff_ne.2 (by omega)
    have HF := Lib.hid (sm_false (a := l) (b := l') (fun e => hl (by rw [e])))
    go_enter Tryz.func138, Tryz.ntmps138
    go_wp2_with fail
    go_ret
    exact ⟨by rw [HF.out]; rfl, Below.refl _ _⟩
set_option maxHeartbeats 1600000 in
theorem eqprts_calls (w : World) (A A' : Option Addr) (c c' : Nat) (l l' : List Prt) (hr : RV w A (fl ptC l)) (hr' : RV w A' (fl ptC l')) (hb : l.length ≤ 9223372036854775807) :
    Calls Tryz.prog 139 #[.slice A l.length c, .slice A' l'.length c'] w fun e w' => e = .returned (.bool (sm l l')) ∧ Below w.heap.size w w' := by
  by_cases hl : l.length = l'.length
  · have dl : ((l.length : Int) == (l'.length : Int)) = true := beq_iff_eq.2 (by omega)
    have dl2 : ((l.length : Int) != (l'.length : Int)) = false := by rw [bne, dl]; rfl
    go_enter Tryz.func139, Tryz.ntmps139
    go_wp2_with fail
    go_loopw [5, 13] (fun _ i wr => ∃ k : Nat, k ≤ l.length ∧ i = .int .i64 (k : Int) ∧ l.take k = l'.take k ∧ Below w.heap.size w wr) (fun _ i _ => l.length - (intOf i).toNat)
    case atStart => exact ⟨0, by omega, rfl, rfl, Below.refl _ _⟩
    case round =>
      obtain ⟨k, hk, rfl, ht, B⟩ := hrel
      by_cases hlt : k < l.length
      · have dec : decide ((k : Int) < (l.length : Int)) = true := decide_eq_true (by omega)
        have dec' : decide (k < l.length) = true := decide_eq_true hlt
        have hlt' : k < l'.length := by omega
        have dec3 : decide ((k : Int) < (l'.length : Int)) = true := decide_eq_true (by omega)
        have dec3' : decide (k < l'.length) = true := decide_eq_true (by omega)
        obtain ⟨b, off, rfl, hbs, hc, hc1, hc2⟩ := fl_elem3 ptC_len (hr.below B) hlt
        obtain ⟨b', off', rfl, hbs', hc', hc1', hc2'⟩ := fl_elem3 ptC_len (hr'.below B) hlt'
        have HT : Hid (l[k] = l'[k] → l.take (k + 1) = l'.take (k + 1)) := by
          intro e
          rw [List.take_succ_eq_append_getElem hlt, List.take_succ_eq_append_getElem hlt', ht, e]
        have HN : Hid (l[k] ≠ l'[k] → l ≠ l') := fun h e => h (by subst e; rfl)
        have x0 := hc (.string (bstr l[k].text)) rfl
        have y0 := hc' (.string (bstr l'[k].text)) rfl
        have x1 := hc1 (.int .i64 l[k].span.frm) rfl
        have y1 := hc1' (.int .i64 l'[k].span.frm) rfl
        have x2 := hc2 (.int .i64 l[k].span.to) rfl
        have y2 := hc2' (.int .i64 l'[k].span.to) rfl
        generalize l[k] = x at *
        generalize l'[k] = y at *
        clear hc hc1 hc2 hc' hc1' hc2' ht
        by_cases hxy : x = y
        · subst hxy
          have HT2 := Lib.hid (HT.out rfl)
          clear HT HN
          go_wp2_with fail
          go_region
          go_wp2_with fail
          go_roundw
          case rel => exact ⟨k + 1, by omega, by go_num, HT2.out, B.drew⟩
          case measure => first | (simp [intOf]; omega) | (go_num; omega)
        · have HF := Lib.hid (sm_false (HN.out hxy))
          clear HT HN
          by_cases h0 : ¬ x.text = y.text
          · have q := bstr_ne h0
            clear hxy h0
            go_wp2_with fail
            go_region
            go_wp2_with fail
            go_ret
            exact ⟨by rw [HF.out]; rfl, B.drew⟩
          replace h0 := Classical.not_not.1 h0
          by_cases h1 : ¬ x.span.frm = y.span.frm
          · have q := eq_false h1
            clear hxy h1
            rw [← h0] at y0
            clear h0
            go_wp2_with fail
            go_region
            go_wp2_with fail
            go_ret
            exact ⟨by rw [HF.out]; rfl, B.drew⟩
          replace h1 := Classical.not_not.1 h1
          by_cases h2 : ¬ x.span.to = y.span.to
          · have q := eq_false h2
            clear hxy h2
            rw [← h0] at y0
            rw [← h1] at y1
            clear h0 h1
            go_wp2_with fail
            go_region
            go_wp2_with fail
            go_ret
            exact ⟨by rw [HF.out]; rfl, B.drew⟩
          replace h2 := Classical.not_not.1 h2
          exfalso
          obtain ⟨x1, x2, x3⟩ := x
          obtain ⟨z1, z2, z3⟩ := y
          simp only at h0 h1 h2
          subst h0
          subst h1
          subst h2
          exact hxy rfl
      · obtain rfl : k = l.length := by omega
        have dec : decide ((l.length : Int) < (l.length : Int)) = false := decide_eq_false (by omega)
        rw [List.take_length, hl, List.take_length] at ht
        have HF := Lib.hid (sm_true ht)
        clear ht
        go_wp2_with fail
        go_ret
        exact ⟨by rw [HF.out]; rfl, B⟩
  · have dl2 : ((l.length : Int) != (l'.length : Int)) = true := bne_iff_ne.2 (by omega)
    have HF := Lib.hid (sm_false (a := l) (b := l') (fun e => hl (by rw [e])))
    go_enter Tryz.func139, Tryz.ntmps139
    go_wp2_with fail
    go_ret
    exact ⟨by rw [HF.out]; rfl, Below.refl _ _⟩
set_option maxHeartbeats 1600000 in
theorem eqtexts_calls (w : World) (A A' : Option Addr) (c c' : Nat) (l l' : List Txt) (hr : RV w A (fl txC l)) (hr' : RV w A' (fl txC l')) (hb : l.length ≤ 9223372036854775807) :
    Calls Tryz.prog 103 #[.slice A l.length c, .slice A' l'.length c'] w fun e w' => e = .returned (.bool (sm l l')) ∧ Below w.heap.size w w' := by
  by_cases hl : l.length = l'.length
  · have dl : ((l.length : Int) == (l'.length : Int)) = true := beq_iff_eq.2 (by omega)
    have dl2 : ((l.length : Int) != (l'.length : Int)) = false := by rw [bne, dl]; rfl
    go_enter Tryz.func103, Tryz.ntmps103
    go_wp2_with fail
    go_loopw [5, 13] (fun _ i wr => ∃ k : Nat, k ≤ l.length ∧ i = .int .i64 (k : Int) ∧ l.take k = l'.take k ∧ Below w.heap.size w wr) (fun _ i _ => l.length - (intOf i).toNat)
    case atStart => exact ⟨0, by omega, rfl, rfl, Below.refl _ _⟩
    case round =>
      obtain ⟨k, hk, rfl, ht, B⟩ := hrel
      by_cases hlt : k < l.length
      · have dec : decide ((k : Int) < (l.length : Int)) = true := decide_eq_true (by omega)
        have dec' : decide (k < l.length) = true := decide_eq_true hlt
        have hlt' : k < l'.length := by omega
        have dec3 : decide ((k : Int) < (l'.length : Int)) = true := decide_eq_true (by omega)
        have dec3' : decide (k < l'.length) = true := decide_eq_true (by omega)
        obtain ⟨b, off, rfl, hbs, hc⟩ := fl_elem1 txC_len (hr.below B) hlt
        obtain ⟨b', off', rfl, hbs', hc'⟩ := fl_elem1 txC_len (hr'.below B) hlt'
        have HT : Hid (l[k] = l'[k] → l.take (k + 1) = l'.take (k + 1)) := by
          intro e
          rw [List.take_succ_eq_append_getElem hlt, List.take_succ_eq_append_getElem hlt', ht, e]
        have HN : Hid (l[k] ≠ l'[k] → l ≠ l') := fun h e => h (by subst e; rfl)
        have x0 := hc (.string (bstr l[k])) rfl
        have y0 := hc' (.string (bstr l'[k])) rfl
        generalize l[k] = x at *
        generalize l'[k] = y at *
        clear hc hc' ht
        by_cases hxy : x = y
        · subst hxy
          have HT2 := Lib.hid (HT.out rfl)
          clear HT HN
          go_wp2_with fail
          go_region
          go_wp2_with fail
          go_roundw
          case rel => exact ⟨k + 1, by omega, by go_num, HT2.out, B.drew⟩
          case measure => first | (simp [intOf]; omega) | (go_num; omega)
        · have HF := Lib.hid (sm_false (HN.out hxy))
          clear HT HN
          have q : (!(bstr x).toList == (bstr y).toList) = true := by rw [bstr_list, bstr_list]; simpa using hxy
          clear hxy
          go_wp2_with fail
          go_region
          go_wp2_with fail
          go_ret
          exact ⟨by rw [HF.out]; rfl, B.drew⟩
      · obtain rfl : k = l.length := by omega
        have dec : decide ((l.length : Int) < (l.length : Int)) = false := decide_eq_false (by omega)
        rw [List.take_length, hl, List.take_length] at ht
        have HF := Lib.hid (sm_true ht)
        clear ht
        go_wp2_with fail
        go_ret
        exact ⟨by rw [HF.out]; rfl, B⟩
  · have dl2 : ((l.length : Int) != (l'.length : Int)) = true := bne_iff_ne.2 (by omega)
    have HF := Lib.hid (sm_false (a := l) (b := l') (fun e => hl (by rw [e])))
    go_enter Tryz.func103, Tryz.ntmps103
    go_wp2_with fail
    go_ret
    exact ⟨by rw [HF.out]; rfl, Below.refl _ _⟩
set_option maxHeartbeats 1600000 in
theorem eqbytes_calls (w : World) (A A' : Option Addr) (c c' : Nat) (l l' : List UInt8) (hr : RV w A (fl byC l)) (hr' : RV w A' (fl byC l')) (hb : l.length ≤ 9223372036854775807) :
    Calls Tryz.prog 102 #[.slice A l.length c, .slice A' l'.length c'] w fun e w' => e = .returned (.bool (sm l l')) ∧ Below w.heap.size w w' := by
  by_cases hl : l.length = l'.length
  · have dl : ((l.length : Int) == (l'.length : Int)) = true := beq_iff_eq.2 (by omega)
    have dl2 : ((l.length : Int) != (l'.length : Int)) = false := by rw [bne, dl]; rfl
    go_enter Tryz.func102, Tryz.ntmps102
    go_wp2_with fail
    go_loopw [5, 13] (fun _ i wr => ∃ k : Nat, k ≤ l.length ∧ i = .int .i64 (k : Int) ∧ l.take k = l'.take k ∧ Below w.heap.size w wr) (fun _ i _ => l.length - (intOf i).toNat)
    case atStart => exact ⟨0, by omega, rfl, rfl, Below.refl _ _⟩
    case round =>
      obtain ⟨k, hk, rfl, ht, B⟩ := hrel
      by_cases hlt : k < l.length
      · have dec : decide ((k : Int) < (l.length : Int)) = true := decide_eq_true (by omega)
        have dec' : decide (k < l.length) = true := decide_eq_true hlt
        have hlt' : k < l'.length := by omega
        have dec3 : decide ((k : Int) < (l'.length : Int)) = true := decide_eq_true (by omega)
        have dec3' : decide (k < l'.length) = true := decide_eq_true (by omega)
        obtain ⟨b, off, rfl, hbs, hc⟩ := fl_elem1 byC_len (hr.below B) hlt
        obtain ⟨b', off', rfl, hbs', hc'⟩ := fl_elem1 byC_len (hr'.below B) hlt'
        have HT : Hid (l[k] = l'[k] → l.take (k + 1) = l'.take (k + 1)) := by
          intro e
          rw [List.take_succ_eq_append_getElem hlt, List.take_succ_eq_append_getElem hlt', ht, e]
        have HN : Hid (l[k] ≠ l'[k] → l ≠ l') := fun h e => h (by subst e; rfl)
        have x0 := hc (.int .u8 (l[k].toNat : Int)) rfl
        have y0 := hc' (.int .u8 (l'[k].toNat : Int)) rfl
        generalize l[k] = x at *
        generalize l'[k] = y at *
        clear hc hc' ht
        by_cases hxy : x = y
        · subst hxy
          have HT2 := Lib.hid (HT.out rfl)
          clear HT HN
          go_wp2_with fail
          go_region
          go_wp2_with fail
          go_roundw
          case rel => exact ⟨k + 1, by omega, by go_num, HT2.out, B.drew⟩
          case measure => first | (simp [intOf]; omega) | (go_num; omega)
        · have HF := Lib.hid (sm_false (HN.out hxy))
          clear HT HN
          have q : ((x.toNat : Int) != (y.toNat : Int)) = true := bne_iff_ne.2 (fun e => hxy (UInt8.toNat_inj.1 (by omega)))
          clear hxy
          go_wp2_with fail
          go_region
          go_wp2_with fail
          go_ret
          exact ⟨by rw [HF.out]; rfl, B.drew⟩
      · obtain rfl : k = l.length := by omega
        have dec : decide ((l.length : Int) < (l.length : Int)) = false := decide_eq_false (by omega)
        rw [List.take_length, hl, List.take_length] at ht
        have HF := Lib.hid (sm_true ht)
        clear ht
        go_wp2_with fail
        go_ret
        exact ⟨by rw [HF.out]; rfl, B⟩
  · have dl2 : ((l.length : Int) != (l'.length : Int)) = true := bne_iff_ne.2 (by omega)
    have HF := Lib.hid (sm_false (a := l) (b := l') (fun e => hl (by rw [e])))
    go_enter Tryz.func102, Tryz.ntmps102
    go_wp2_with fail
    go_ret
    exact ⟨by rw [HF.out]; rfl, Below.refl _ _⟩
end Go.Proofs.YtiokbebodblhaaaGreatDoor
