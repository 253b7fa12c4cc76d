/-
  Walk of the document: a line's words.
-/
import Derived.Test.YtiokbebodblhaaaGreatDoorTraceGe
namespace Go.Proofs.YtiokbebodblhaaaGreatDoor
open Go.RowKit TraceP

/-- The words ahead of place f are cut off; from f to k there is no space. -/
structure Parting (s : Txt) (out : List Txt) (f k : Nat) : Prop where
  all : out ++ wordsS (s.drop f) = wordsS s
  free : ∀ c ∈ (s.drop f).take (k - f), c ≠ 32
  le : f ≤ k
  len : k ≤ s.length
theorem Parting.start (s : Txt) : Parting s [] 0 0 := ⟨rfl, fun c h => by simp at h, Nat.le_refl _, Nat.zero_le _⟩
theorem drop_take_at {s : Txt} {f k : Nat} (hf : f ≤ k) (hk : k < s.length) : (s.drop f).take (k + 1 - f) = (s.drop f).take (k - f) ++ [s[k]] := by
  rw [show k + 1 - f = (k - f) + 1 by omega, List.take_succ_eq_append_getElem (by rw [List.length_drop]; omega), List.getElem_drop]
  congr 3
  omega
theorem Parting.more {s : Txt} {out : List Txt} {f k : Nat} (h : Parting s out f k) (hk : k < s.length) (hc : s[k] ≠ 32) : Parting s out f (k + 1) :=
  ⟨h.all, fun c hm => by
    rw [drop_take_at h.le hk] at hm
    rcases List.mem_append.1 hm with hm | hm
    · exact h.free c hm
    · rw [List.mem_singleton] at hm; rw [hm]; exact hc, Nat.le_succ_of_le h.le, hk⟩
theorem drop_parts {s : Txt} {f k : Nat} (hf : f ≤ k) (hk : k < s.length) : s.drop f = (s.drop f).take (k - f) ++ s[k] :: s.drop (k + 1) := by
  have e1 : s.drop f = (s.drop f).take (k - f) ++ (s.drop f).drop (k - f) := (List.take_append_drop _ _).symm
  rw [List.drop_drop, show f + (k - f) = k by omega, drop_at hk] at e1
  exact e1
theorem Parting.cut {s : Txt} {out : List Txt} {f k : Nat} (h : Parting s out f k) (hk : k < s.length) (hc : s[k] = 32) : Parting s (out ++ [(s.drop f).take (k - f)]) (k + 1) (k + 1) := by
  refine ⟨?_, fun c hm => ?_, Nat.le_refl _, hk⟩
  · have e : wordsS (s.drop f) = (s.drop f).take (k - f) :: wordsS (s.drop (k + 1)) := by
      have := words_ahead ((s.drop f).take (k - f)) (s.drop (k + 1)) h.free
      rw [← hc, ← drop_parts h.le hk] at this
      exact this
    rw [← h.all, e]
    simp
  · rw [Nat.sub_self, List.take_zero] at hm
    cases hm
theorem Parting.last {s : Txt} {out : List Txt} {f : Nat} (h : Parting s out f s.length) : out ++ [(s.drop f).take (s.length - f)] = wordsS s := by
  have e : (s.drop f).take (s.length - f) = s.drop f := List.take_of_length_le (by rw [List.length_drop]; exact Nat.le_refl _)
  have hf := h.free
  rw [e] at hf ⊢
  rw [← h.all, words_one _ hf]
theorem str_slice (s : Txt) (f i : Nat) (hf : f ≤ i) (hi : i ≤ s.length) (w : World) : (Instr.slice 9 (.string (bstr s)) (some (.int .i64 (f : Int))) (some (.int .i64 (i : Int))) none).run Tryz.prog w = .ok (.string (bstr ((s.drop f).take (i - f)))) w := by
  rw [run_slice_string w 9 (bstr s) .i64 .i64 (f : Int) (i : Int) Tryz.underlying9 (by omega) (by omega) (by rw [bstr_size]; omega), Int.toNat_natCast, Int.toNat_natCast, bstr_cutT]
set_option maxHeartbeats 1600000 in
theorem parted_calls (s : Txt) (w : World) (hl : s.length ≤ 65536) :
    Calls Tryz.prog 44 #[.string (bstr s)] w fun e w' => ∃ r : Row Txt, e = .returned r.val ∧ r.l = wordsS s ∧ RowN txC w.heap.size w' r ∧ Below w.heap.size w w' := by
  have hb := get_bAt s
  have hs : (bstr s).size = s.length := rfl
  go_enter Tryz.func44, Tryz.ntmps44
  go_wp2_with fail
  go_loopw [3, 4, 5] (fun v fv iv wr => ∃ (k f : Nat) (out : List Txt), fv = .int .i64 (f : Int) ∧ iv = .int .i64 (k : Int) ∧ (Parting s out f k ∨ (k = s.length + 1 ∧ out = wordsS s)) ∧ wr.ownsRow w.heap.size 9 1 v out.length (fl txC out) ∧ Below w.heap.size w wr ∧ out.length ≤ k) (fun _ _ iv _ => s.length + 1 - (intOf iv).toNat)
  case atStart => exact ⟨0, 0, [], rfl, rfl, .inl (Parting.start s), ⟨rfl, .inl ⟨rfl, rfl⟩⟩, Below.refl _ _, Nat.le_refl _⟩
  case round =>
    obtain ⟨k, f, out, rfl, rfl, I, hown, hB, hle⟩ := hrel
    have hwr := hB.size
    obtain ⟨A, c, rfl, hnc, hcm⟩ := own_form hown
    have hg1 : ∀ k, (Value.slice A out.length c).ownBlock = some k → w.heap.size ≤ k := fun k hk => (hown.lt k hk).1
    rcases I with I | ⟨rfl, rfl⟩
    · have hk := I.len
      have hf := I.le
      have dl : decide ((k : Int) ≤ (s.length : Int)) = true := decide_eq_true (by omega)
      have dl' : decide (k ≤ s.length) = true := decide_eq_true hk
      have SS := str_slice s f k hf hk
      by_cases hlt : k < s.length
      · have dn : ((k : Int) == (s.length : Int)) = false := beq_eq_false_iff_ne.2 (by omega)
        have dn' : (k == s.length) = false := beq_eq_false_iff_ne.2 (by omega)
        have hbk := bAt_get hlt
        by_cases hc : s[k] = 32
        · have I2 := Lib.hid (I.cut hlt hc)
          have e1 : (((s[k].toNat : Nat) : Int) == 32) = true := by rw [hc]; rfl
          generalize s[k] = ch at *
          generalize (s.drop f).take (k - f) = x at *
          clear hc I
          have own1 := own_below hown (below_new wr (.cells (txC x).toArray 9)) (fun k hk => (hown.lt k hk).2)
          have B2 := hB.trans ((below_new wr (.cells (txC x).toArray 9)).mono hwr)
          have sz := B2.size
          go_wp2_with ((with_reducible show wpList _ _ _ (⟨some 28, _, _, _, _, _⟩ :: _) _ _); refine wpList_append_rv el_string rfl (.tmp 22) (.tmp 27) rfl w.heap.size _ out.length (fl txC out) rfl own1 (some ⟨wr.heap.size, 0, none⟩) 1 1 (txC x) rfl rfl (RV.new wr (txC x) 9 (0, 0)) (txC_one _) ?f2 ?f3 ?f4 ?_)
          case f2 => unfold maxLen; omega
          case f3 => omega
          case f4 => exact sz
          intro v' w3 own3 gr hv
          have B3 := below_grown B2 gr hg1
          clear gr hv hown own1 B2 sz SS
          go_wp2_with fail
          go_roundw
          case rel => exact ⟨k + 1, k + 1, out ++ [x], by go_num, by go_num, .inl I2.out, by rw [List.length_append, fl_append, fl_one]; exact own3, B3, by rw [List.length_append, List.length_singleton]; omega⟩
          case measure => simp [intOf]; omega
        · have I2 := Lib.hid (I.more hlt hc)
          have e1 : (((s[k].toNat : Nat) : Int) == 32) = false := beq_eq_false_iff_ne.2 (fun e => hc (UInt8.toNat_inj.1 (by have : ((s[k].toNat : Nat) : Int) = ((32 : UInt8).toNat : Int) := e; omega)))
          generalize s[k] = ch at *
          clear hc I SS
          go_wp2_with fail
          go_roundw
          case rel => exact ⟨k + 1, f, out, rfl, by go_num, .inl I2.out, hown, hB, by omega⟩
          case measure => simp [intOf]; omega
      · obtain rfl : k = s.length := by omega
        have dn : ((s.length : Int) == (s.length : Int)) = true := beq_iff_eq.2 rfl
        have dn' : (s.length == s.length) = true := beq_iff_eq.2 rfl
        have I2 := Lib.hid I.last
        generalize (s.drop f).take (s.length - f) = x at *
        clear I
        have own1 := own_below hown (below_new wr (.cells (txC x).toArray 9)) (fun k hk => (hown.lt k hk).2)
        have B2 := hB.trans ((below_new wr (.cells (txC x).toArray 9)).mono hwr)
        have sz := B2.size
        go_wp2_with ((with_reducible show wpList _ _ _ (⟨some 28, _, _, _, _, _⟩ :: _) _ _); refine wpList_append_rv el_string rfl (.tmp 22) (.tmp 27) rfl w.heap.size _ out.length (fl txC out) rfl own1 (some ⟨wr.heap.size, 0, none⟩) 1 1 (txC x) rfl rfl (RV.new wr (txC x) 9 (0, 0)) (txC_one _) ?f2 ?f3 ?f4 ?_)
        case f2 => unfold maxLen; omega
        case f3 => omega
        case f4 => exact sz
        intro v' w3 own3 gr hv
        have B3 := below_grown B2 gr hg1
        clear gr hv hown own1 B2 sz SS
        go_wp2_with fail
        go_roundw
        case rel => exact ⟨s.length + 1, s.length + 1, out ++ [x], by go_num, by go_num, .inr ⟨rfl, I2.out⟩, by rw [List.length_append, fl_append, fl_one]; exact own3, B3, by rw [List.length_append, List.length_singleton]; omega⟩
        case measure => simp [intOf] <;> omega
    · have dl : decide (((s.length + 1 : Nat) : Int) ≤ (s.length : Int)) = false := decide_eq_false (by omega)
      have dl2 : decide ((s.length : Int) + 1 ≤ (s.length : Int)) = false := decide_eq_false (by omega)
      have dl' : decide (s.length + 1 ≤ s.length) = false := decide_eq_false (by omega)
      go_wp2_with fail
      go_ret
      obtain ⟨r, hv, hl, hr⟩ := RowN.of_own (c := txC) hown
      exact ⟨r, congrArg Ending.returned hv, hl, hr, hB⟩
end Go.Proofs.YtiokbebodblhaaaGreatDoor
