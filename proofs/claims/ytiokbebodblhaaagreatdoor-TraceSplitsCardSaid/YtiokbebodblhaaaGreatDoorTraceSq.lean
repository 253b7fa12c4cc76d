/-
  Walk of the document's Split: the trace of a text.
-/
import Derived.Test.YtiokbebodblhaaaGreatDoorTraceSp
import Derived.Test.YtiokbebodblhaaaGreatDoorTraceGr
namespace Go.Proofs.YtiokbebodblhaaaGreatDoor
open Go.RowKit TraceP
attribute [local go_sem] Row.val

/-- From place f to k there is no end of a line. -/
structure Lining (s : Txt) (f k : Nat) : Prop where
  free : ∀ c ∈ (s.drop f).take (k - f), c ≠ 10
  le : f ≤ k
  len : k ≤ s.length
theorem Lining.start (s : Txt) : Lining s 0 0 := ⟨fun c h => by simp at h, Nat.le_refl _, Nat.zero_le _⟩
theorem Lining.more {s : Txt} {f k : Nat} (h : Lining s f k) (hk : k < s.length) (hc : s[k] ≠ 10) : Lining s f (k + 1) :=
  ⟨fun c hm => by
    rw [drop_take_at h.le hk] at hm
    rcases List.mem_append.1 hm with hm | hm
    · exact h.free c hm
    · rw [List.mem_singleton] at hm; rw [hm]; exact hc, Nat.le_succ_of_le h.le, hk⟩
theorem Lining.next {s : Txt} {k : Nat} (hk : k < s.length) : Lining s (k + 1) (k + 1) := ⟨fun c h => by simp at h, Nat.le_refl _, hk⟩
theorem Lining.cut {s : Txt} {f k : Nat} (h : Lining s f k) (hk : k < s.length) (hc : s[k] = 10) : cutN (s.drop f) = ((s.drop f).take (k - f), some (s.drop (k + 1))) := by
  have := cutN_line ((s.drop f).take (k - f)) (s.drop (k + 1)) h.free
  rw [← hc, ← drop_parts h.le hk] at this
  exact this
theorem Lining.none_ {s : Txt} {f : Nat} (h : Lining s f s.length) : (cutN (s.drop f)).2 = none := by
  have e : (s.drop f).take (s.length - f) = s.drop f := List.take_of_length_le (by rw [List.length_drop]; exact Nat.le_refl _)
  have hf := h.free
  rw [e] at hf
  rw [cutN_none _ hf]
set_option maxRecDepth 100000 in
set_option maxHeartbeats 3200000 in
theorem dsplit_calls (w : World) (s : Txt) (hl0 : s.length ≤ 100000000) :
    Calls Tryz.prog 23 #[.string (bstr s)] w fun r w' => RetSpl w (splitS parE s []) r w' := by
  obtain ⟨res, hres⟩ : ∃ x, x = splitS parE s [] := ⟨_, rfl⟩
  rw [← hres]
  replace hres := Lib.hid hres.symm
  have hb := get_bAt s
  have hsz : (bstr s).size = s.length := rfl
  go_enter Tryz.func23, Tryz.ntmps23
  go_wp2_with fail
  go_loopw [5, 6, 7] (fun v fv iv wr => ∃ (k f : Nat) (l : List EvtR), fv = .int .i64 (f : Int) ∧ iv = .int .i64 (k : Int) ∧ Lining s f k ∧ EvsX w.heap.size wr v l ∧ Below w.heap.size w wr ∧ Hid (splitS parE (s.drop f) (absL l) = res) ∧ l.length ≤ k) (fun _ _ iv _ => s.length - (intOf iv).toNat)
  case atStart => exact ⟨0, 0, [], rfl, rfl, Lining.start s, EvsX.nil _ _, Below.refl _ _, hres, Nat.le_refl _⟩
  case round =>
    obtain ⟨k, f, l, rfl, rfl, I, hX, B, G, hle⟩ := hrel
    have hwr := B.size
    obtain ⟨A, c, hv, hnc, hcm⟩ := own_form hX.own
    subst hv
    have hk := I.len
    have hf := I.le
    have hlen := absL_len l
    by_cases hlt : k < s.length
    · have dl : decide ((k : Int) < (s.length : Int)) = true := decide_eq_true (by omega)
      have dl' : decide (k < s.length) = true := decide_eq_true hlt
      have hbk := bAt_get hlt
      by_cases hc : s[k] = 10
      · have e1 : (((s[k].toNat : Nat) : Int) != 10) = false := by rw [hc]; rfl
        have hcut := I.cut hlt hc
        have SS := str_slice s f k hf hk
        generalize s[k] = ch at *
        have hne : s.drop f ≠ [] := fun e => by have := congrArg List.length e; rw [List.length_drop, List.length_nil] at this; omega
        have GG := G.out
        rw [splitS_ne parE _ hne, hcut] at GG
        dsimp only at GG
        generalize (s.drop f).take (k - f) = t at *
        clear G hcut hne hc
        have PC := dparse_calls wr t
        go_upto_region 7 with (fail)
        with_reducible refine wp_region_lit ?_
        with_reducible refine wpList_cutAt 8 ?_
        simp only [List.take_succ_cons, List.take_zero, List.drop_succ_cons, List.drop_zero]
        go_wp2_with (go_at_call 16; refine PC.mono ?_; rintro _ w2 ⟨e, rfl, he, N, B2⟩; clear PC)
        with_reducible refine CutQ.go_ ?_
        with_reducible refine wpList_cutAt 1 ?_
        simp only [List.take_succ_cons, List.take_zero, List.drop_succ_cons, List.drop_zero]
        repeat (first | go_values | go_skip | go_guarded | go_step | go_upon)
        with_reducible refine CutQ.go_ ?_
        have X2 := hX.below B2
        have hlt1 := hX.own.lt
        have EX := EvtN.toX (F := fun k => _ = some k) N fun k hk => (hlt1 k hk).2
        have BB := B.trans (B2.mono B.size)
        have hb0 : w.heap.size ≤ w2.heap.size := BB.size
        have bE0 := Blk.new w2 45 zEvtR.cells.toArray
        have dE0 := below_new w2 (.cells zEvtR.cells.toArray 45)
        with_reducible refine wpList_abs (fun w' => Blk w' w2.heap.size 45 zEvtR.cells.toArray ∧ Below w2.heap.size w2 w') ?_ ?_
        · exact ⟨bE0, dE0⟩
        clear bE0 dE0
        rintro w3 ⟨bE0, dE0⟩
        have bE' : w3.heap[w2.heap.size]? = some (Obj.cells zEvtR.cells.toArray 45) := bE0
        with_reducible refine wpList_store_row rfl 45 (.tmp 8) (.tmp 26) rfl w2.heap.size e.cells.toArray (by kernel_rfl) (by kernel_rfl) 45 zEvtR.cells.toArray bE' (by kernel_rfl) (by kernel_rfl) (by kernel_rfl) ?_
        have bE := bE0.setRow_ e.cells.toArray
        have dE := below_setRow dE0 (Nat.le_refl _) e.cells.toArray
        revert bE dE
        generalize w3.setRow w2.heap.size e.cells.toArray = w4
        clear bE' bE0 dE0 w3
        intro bE dE
        simp only [Act.put]
        replace EX := EX.below dE
        have X4 := X2.below dE
        have B4 := BB.trans (dE.mono hb0)
        have hb2 := bE.lt
        obtain ⟨b1, hb1⟩ : ∃ b, b = w2.heap.size := ⟨_, rfl⟩
        rw [← hb1] at bE hb2 ⊢
        clear hb1 dE BB N B2 hb0 X2 hlt1 B hX
        cases hp : parE t with
        | none =>
          rw [hp] at GG
          have hr : res = ([], ((absL l).length : Int) + 1, 2) := GG.symm
          rw [hlen] at hr
          have hpn : parN t = 2 := by unfold parN; rw [hp]; rfl
          rw [hpn]
          have wk : wrap64 ((l.length : Int) + 1) = (l.length : Int) + 1 := by unfold wrap64; omega
          have c2 : ((2 : Int) != 0) = true := rfl
          clear GG he hle hl0 hpn
          go_wp2_with fail
          go_ret3
          refine ⟨.slice none 0 0, [], ?_, by rw [hr]; rfl, EvsX.nil _ _, B4⟩
          rw [hr]
          show Ending.returned (Value.tuple #[.slice none 0 0, .int .i64 (wrap64 ((l.length : Int) + 1)), .int .i64 2]) = Ending.returned (Value.tuple #[.slice none 0 0, .int .i64 ((l.length : Int) + 1), .int .i64 2])
          rw [wk]
        | some x =>
          rw [hp] at GG he
          have hr := Lib.hid (show splitS parE (s.drop (k + 1)) (absL l ++ [x]) = res from GG)
          have hpn : parN t = 0 := by unfold parN; rw [hp]; rfl
          rw [hpn]
          have he2 : e.abs = x := he
          have hP : EvtP e.abs := by rw [he2]; exact parE_P hp
          have c2 : ((0 : Int) != 0) = false := rfl
          have hX' : w4.heap[b1]? = some (Obj.cells e.cells.toArray 45) := bE
          clear GG he hpn hp
          go_upto_region 10 with (fail)
          have own1 := own_below X4.own (below_new w4 (.cells e.cells.toArray 45)) (fun k hk => (X4.own.lt k hk).2)
          have EX1 := EX.below (below_new w4 (.cells e.cells.toArray 45))
          have X5 := X4.below (below_new w4 (.cells e.cells.toArray 45))
          have B5 := B4.trans ((below_new w4 (.cells e.cells.toArray 45)).mono B4.size)
          have rv5 := RV.new w4 e.cells 45 (0, 0)
          with_reducible refine wp_region_lit ?_
          with_reducible refine wpList_cutAt 1 ?_
          simp only [List.take_succ_cons, List.take_zero, List.drop_succ_cons, List.drop_zero]
          repeat (first | go_values | go_skip | go_guarded | go_step | go_upon)
          with_reducible refine CutQ.go_ ?_
          with_reducible refine wpList_load_row rfl 45 (.tmp 8) rfl b1 (by kernel_rfl) 45 e.cells.toArray (0, 0) _ hX' Tryz.underlying45 (by kernel_rfl) (by kernel_rfl) ?_
          go_frame
          with_reducible refine wpList_one (by kernel_rfl) fun K hK => ?_
          refine wp_row1 (.tmp 34) rfl e (by kernel_rfl) ?_
          refine hK _ _ ?_
          go_frame
          clear hK
          with_reducible refine wpList_append_rv el_event rfl (.tmp 33) (.tmp 35) rfl w.heap.size (.slice A l.length c) l.length (fl EvtR.cells l) (by kernel_rfl) own1 (some ⟨w4.heap.size, 0, none⟩) 1 1 e.cells (by kernel_rfl) (by kernel_rfl) rv5 (EvtR.cells_one e) ?f2 ?f3 ?f4 ?_
          case f2 => unfold maxLen; omega
          case f3 => omega
          case f4 => exact B5.size
          intro v' w6 own6 gr hv
          have X6 := X5.push EX1 hP own6 gr hv
          have B6 : Below w.heap.size w w6 := below_grownS B5 gr (fun k hk => (X5.own.lt k hk).1)
          have I2 := Lib.hid (Lining.next hlt)
          clear gr hv own6 own1 rv5 X5 EX1 EX X4 B4 B5 hX' bE SS
          go_wp2_with fail
          go_roundw
          case rel => exact ⟨k + 1, k + 1, l ++ [e], by go_num, by go_num, I2.out, X6, B6, by rw [show absL (l ++ [e]) = absL l ++ [e.abs] by simp [absL], he2]; exact hr, by rw [List.length_append, List.length_singleton]; omega⟩
          case measure => simp [intOf]; omega
      · have I2 := Lib.hid (I.more hlt hc)
        have e1 : (((s[k].toNat : Nat) : Int) != 10) = true := bne_iff_ne.2 (fun e => hc (UInt8.toNat_inj.1 (by have : ((s[k].toNat : Nat) : Int) = ((10 : UInt8).toNat : Int) := e; omega)))
        generalize s[k] = ch at *
        clear hc I
        go_wp2_with fail
        go_roundw
        case rel => exact ⟨k + 1, f, l, rfl, by go_num, I2.out, hX, B, G, by omega⟩
        case measure => simp [intOf]; omega
    · obtain rfl : k = s.length := by omega
      have dl : decide ((s.length : Int) < (s.length : Int)) = false := decide_eq_false (by omega)
      have dl' : decide (s.length < s.length) = false := decide_eq_false (by omega)
      by_cases hfl : f < s.length
      · have df : decide ((f : Int) < (s.length : Int)) = true := decide_eq_true (by omega)
        have df' : decide (f < s.length) = true := decide_eq_true hfl
        have hne : s.drop f ≠ [] := fun e => by have := congrArg List.length e; rw [List.length_drop, List.length_nil] at this; omega
        have hr := (splitS_bad parE (absL l) hne (.inl I.none_)).symm.trans G.out
        rw [hlen] at hr
        have wk : wrap64 ((l.length : Int) + 1) = (l.length : Int) + 1 := by unfold wrap64; omega
        clear hne I hle hl0
        go_wp2_with fail
        go_ret3
        refine ⟨.slice none 0 0, [], ?_, by rw [← hr]; rfl, EvsX.nil _ _, B⟩
        rw [← hr]
        show Ending.returned (Value.tuple #[.slice none 0 0, .int .i64 (wrap64 ((l.length : Int) + 1)), .int .i64 2]) = Ending.returned (Value.tuple #[.slice none 0 0, .int .i64 ((l.length : Int) + 1), .int .i64 2])
        rw [wk]
      · have df : decide ((f : Int) < (s.length : Int)) = false := decide_eq_false (by omega)
        have df' : decide (f < s.length) = false := decide_eq_false hfl
        have hr := G.out
        rw [List.drop_eq_nil_of_le (by omega), splitS_nil] at hr
        go_wp2_with fail
        go_ret3
        exact ⟨_, l, by rw [← hr]; rfl, by rw [← hr], hX, B⟩
end Go.Proofs.YtiokbebodblhaaaGreatDoor
