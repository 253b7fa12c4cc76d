/-
  Walks of the document's reader: a number, a truth, how many, a span.
-/
import Derived.Test.YtiokbebodblhaaaGreatDoorTraceGd
import Derived.Test.YtiokbebodblhaaaGreatDoorTSm
import Derived.Test.YtiokbebodblhaaaGreatDoorTRq
namespace Go.Proofs.YtiokbebodblhaaaGreatDoor
open Go.RowKit TraceP

theorem eq_eq2 (a b : Txt) : ((bstr a).toList == (bstr b).toList) = decide (a = b) := by
  rw [bstr_list, bstr_list]
  by_cases h : a = b
  · simp [h]
  · simp [h]
theorem dig_in {n : Int} {c : UInt8} (h : 48 ≤ c.toNat ∧ c.toNat ≤ 57) : digF n c = wrap64 (wrap64 (n * 10) - ((c.toNat : Int) - 48)) := by
  unfold digF
  rw [if_pos h, IntKind.wrap_i64, IntKind.wrap_i64]
  unfold wrap64
  rfl
theorem dig_out {n : Int} {c : UInt8} (h : ¬ (48 ≤ c.toNat ∧ c.toNat ≤ 57)) : digF n c = n := by
  unfold digF
  rw [if_neg h]
theorem take_dig {t : Txt} {k : Nat} (h : k < t.length) : (t.take (k + 1)).foldl digF 0 = digF ((t.take k).foldl digF 0) t[k] := by
  rw [List.take_succ_eq_append_getElem h, List.foldl_append]
  rfl
theorem dig_I (t : Txt) : I64 (t.foldl digF 0) := fold_I t 0 i64_zeroS
theorem rnumV_I (t : Txt) : I64 (rnumV t) := by
  have := rNum_I ([t], false)
  unfold rnumV
  split
  · exact fold_I _ _ i64_zeroS
  · exact wrap_I64 _
set_option maxHeartbeats 1600000 in
theorem dnumr_calls (L : Nat) (w0 w : World) (g : Nat) (F : Nat → Prop) (s : RdS) (H : DdOK L w0 w g F s) :
    Calls Tryz.prog 45 #[.pointer (some ⟨g, 0, none⟩)] w fun e w' => e = .returned (.int .i64 (rNum s).1) ∧ DReads L w0 g F (rNum s).2 w w' := by
  have C := dw_calls L w0 w g F s H
  have hsh := H.head
  obtain ⟨t, s1, q0⟩ : ∃ a s', pWord s = (a, s') := ⟨_, _, rfl⟩
  rw [q0] at C hsh
  have hR : rNum s = if numT (rnumV t) = t then (rnumV t, s1) else (0, s1.1, true) := by unfold rNum; rw [q0]
  rw [hR]
  clear q0 hR
  dsimp only at C hsh
  have hb := get_bAt t
  have hs : (bstr t).size = t.length := rfl
  obtain ⟨v, hvt⟩ : ∃ v, v = rnumV t := ⟨_, rfl⟩
  rw [← hvt]
  generalize hQ : (if numT v = t then (v, s1) else (0, s1.1, true)) = q
  replace hQ := Lib.hid hQ
  go_enter Tryz.func45, Tryz.ntmps45
  go_wp2_with (go_at_call 46; refine C.mono ?_; rintro _ w1 ⟨rfl, R1⟩; clear C H)
  go_loopw [4, 5] (fun n i wr => ∃ k : Nat, k ≤ t.length ∧ k ≤ 20 ∧ n = .int .i64 ((t.take k).foldl digF 0) ∧ i = .int .i64 (k : Int) ∧ DReads L w0 g F s1 w wr) (fun _ i _ => 20 - (intOf i).toNat)
  case atStart => exact ⟨0, by omega, by omega, rfl, rfl, R1⟩
  case round =>
    clear R1
    obtain ⟨k, hk, hk2, rfl, rfl, R1⟩ := hrel
    by_cases hlt : k < t.length ∧ k < 20
    · obtain ⟨hl1, hl2⟩ := hlt
      have hbk := bAt_get hl1
      have HT := take_dig hl1
      have d1 : decide ((k : Int) < (t.length : Int)) = true := decide_eq_true (by omega)
      have d1' : decide (k < t.length) = true := decide_eq_true hl1
      have d2 : decide ((k : Int) < 20) = true := decide_eq_true (by omega)
      have d2' : decide (k < 20) = true := decide_eq_true hl2
      generalize t[k] = c at *
      have h8 := c.toNat_lt
      generalize (t.take k).foldl digF 0 = n at *
      by_cases h1 : 48 ≤ c.toNat
      · have e1 : decide (48 ≤ (c.toNat : Int)) = true := decide_eq_true (by omega)
        have e1' : decide (48 ≤ c.toNat) = true := decide_eq_true h1
        by_cases h2 : c.toNat ≤ 57
        · have e2 : decide ((c.toNat : Int) ≤ 57) = true := decide_eq_true (by omega)
          have e2' : decide (c.toNat ≤ 57) = true := decide_eq_true h2
          have wu : IntKind.u8.wrap ((c.toNat : Int) - 48) = (c.toNat : Int) - 48 := by rw [IntKind.wrap_u8]; omega
          rw [dig_in ⟨h1, h2⟩] at HT
          replace HT := Lib.hid HT
          clear h1 h2
          go_wp2_with fail
          go_roundw
          case rel => exact ⟨k + 1, by omega, by omega, congrArg (Value.int IntKind.i64) HT.out.symm, by go_num, R1⟩
          case measure => simp [intOf]; omega
        · have e2 : decide ((c.toNat : Int) ≤ 57) = false := decide_eq_false (by omega)
          have e2' : decide (c.toNat ≤ 57) = false := decide_eq_false h2
          rw [dig_out (fun h => h2 h.2)] at HT
          replace HT := Lib.hid HT
          clear h1 h2
          go_wp2_with fail
          go_roundw
          case rel => exact ⟨k + 1, by omega, by omega, congrArg (Value.int IntKind.i64) HT.out.symm, by go_num, R1⟩
          case measure => simp [intOf]; omega
      · have e1 : decide (48 ≤ (c.toNat : Int)) = false := decide_eq_false (by omega)
        have e1' : decide (48 ≤ c.toNat) = false := decide_eq_false h1
        rw [dig_out (fun h => h1 h.1)] at HT
        replace HT := Lib.hid HT
        clear h1
        go_wp2_with fail
        go_roundw
        case rel => exact ⟨k + 1, by omega, by omega, congrArg (Value.int IntKind.i64) HT.out.symm, by go_num, R1⟩
        case measure => simp [intOf]; omega
    · have hN : (t.take k).foldl digF 0 = rnumN t := by
        unfold rnumN
        by_cases h1 : k < t.length
        · obtain rfl : k = 20 := by omega
          rfl
        · obtain rfl : k = t.length := by omega
          rw [List.take_length, List.take_of_length_le hk2]
      rw [hN]
      clear hN
      have hNI : I64 (rnumN t) := dig_I _
      have hVI := rnumV_I t
      have E : (decide ((k : Int) < (t.length : Int)) = true ∧ decide (k < t.length) = true ∧ decide ((k : Int) < 20) = false ∧ decide (k < 20) = false) ∨ (decide ((k : Int) < (t.length : Int)) = false ∧ decide (k < t.length) = false) := by
        by_cases h1 : k < t.length
        · exact .inl ⟨decide_eq_true (by omega), decide_eq_true h1, decide_eq_false (by omega), decide_eq_false (by omega)⟩
        · exact .inr ⟨decide_eq_false (by omega), decide_eq_false h1⟩
      have HD : (decide (0 < (t.length : Int)) = false ∧ decide (0 < t.length) = false ∧ rnumV t = rnumN t) ∨ (decide (0 < (t.length : Int)) = true ∧ decide (0 < t.length) = true ∧ (bAt t 0 != 45) = false ∧ rnumV t = rnumN t) ∨
          (decide (0 < (t.length : Int)) = true ∧ decide (0 < t.length) = true ∧ (bAt t 0 != 45) = true ∧ rnumV t = wrap64 (-(rnumN t))) := by
        cases t with
        | nil => exact .inl ⟨rfl, rfl, rfl⟩
        | cons c r =>
          have hb0 : bAt (c :: r) 0 = (c.toNat : Int) := bAt_get (l := c :: r) (k := 0) (by simp)
          have l0 : decide (0 < ((c :: r).length : Int)) = true := decide_eq_true (by rw [List.length_cons]; omega)
          have l1 : decide (0 < (c :: r).length) = true := decide_eq_true (by simp)
          unfold rnumV
          by_cases hc : c = 45
          · refine .inr (.inl ⟨l0, l1, ?_, ?_⟩)
            · rw [hb0, hc]; rfl
            · rw [if_pos (.inr (by rw [hc]; rfl))]
          · refine .inr (.inr ⟨l0, l1, ?_, ?_⟩)
            · rw [hb0]
              exact bne_iff_ne.2 (fun e => hc (UInt8.toNat_inj.1 (by have : ((c.toNat : Int)) = ((45 : UInt8).toNat : Int) := e; omega)))
            · rw [if_neg (by rintro (h | h); cases h; exact hc (Option.some.inj h)), IntKind.wrap_i64]
              unfold wrap64
              omega
      obtain ⟨A0, cc, n0, bk⟩ := R1.ok.bad_
      have f2 := bk.frozen 2
      have c2 := bk.at_ (i := 2) (v := .bool s1.2) rfl
      have R2 := R1.set_
      have hq := eq_eq2 (numT (rnumV t)) t
      have FN : (decide (numT v = t) = true ∧ q = (v, s1)) ∨ (decide (numT v = t) = false ∧ q = (0, s1.1, true)) := by
        by_cases hh : numT v = t
        · exact .inl ⟨decide_eq_true hh, hQ.out.symm.trans (if_pos hh)⟩
        · exact .inr ⟨decide_eq_false hh, hQ.out.symm.trans (if_neg hh)⟩
      clear bk hlt hk hk2
      generalize rnumN t = n at *
      rw [← hvt] at HD hq hVI
      clear hvt hQ
      rcases HD with ⟨d3, d3', hv⟩ | ⟨d3, d3', d4, hv⟩ | ⟨d3, d3', d4, hv⟩ <;> subst hv <;> have NC := dnum_calls _ hVI wr <;> rcases FN with ⟨d5, rfl⟩ | ⟨d5, rfl⟩ <;> rw [d5] at hq <;> clear d5 <;> rcases E with ⟨d1, d1', d2, d2'⟩ | ⟨d1, d1'⟩
      all_goals
        (try have hp : 0 < t.length := of_decide_eq_true d3'
         go_wp2_with (go_at_call 33; refine NC.mono ?_; rintro _ w3 ⟨rfl, rfl⟩)
         go_ret
         first | exact ⟨rfl, R1⟩ | exact ⟨rfl, R2⟩)
theorem dmany_calls (L : Nat) (w0 w : World) (g : Nat) (F : Nat → Prop) (s : RdS) (H : DdOK L w0 w g F s) :
    Calls Tryz.prog 134 #[.pointer (some ⟨g, 0, none⟩)] w fun e w' => e = .returned (.int .i64 (rMany L s).1) ∧ DReads L w0 g F (rMany L s).2 w w' := by
  have C := dnumr_calls L w0 w g F s H
  have fewL := H.few
  have hI := rNum_I s
  obtain ⟨n, s1, q0⟩ : ∃ a s', rNum s = (a, s') := ⟨_, _, rfl⟩
  have hR : rMany L s = if n < 0 ∨ (L : Int) < n then (0, s1.1, true) else (n, s1) := by unfold rMany; rw [q0]
  rw [hR]
  rw [q0] at C hI
  clear q0 hR
  dsimp only at C hI
  generalize hQ : (if n < 0 ∨ (L : Int) < n then (0, s1.1, true) else (n, s1)) = q
  have E : (decide (n < 0) = true ∧ q = (0, s1.1, true)) ∨ (decide (n < 0) = false ∧ decide ((L : Int) < n) = true ∧ q = (0, s1.1, true)) ∨ (decide (n < 0) = false ∧ decide ((L : Int) < n) = false ∧ q = (n, s1)) := by
    by_cases h1 : n < 0
    · exact .inl ⟨decide_eq_true h1, hQ.symm.trans (if_pos (.inl h1))⟩
    · by_cases h2 : (L : Int) < n
      · exact .inr (.inl ⟨decide_eq_false h1, decide_eq_true h2, hQ.symm.trans (if_pos (.inr h2))⟩)
      · exact .inr (.inr ⟨decide_eq_false h1, decide_eq_false h2, hQ.symm.trans (if_neg (fun h => h.elim h1 h2))⟩)
  clear hQ
  go_enter Tryz.func134, Tryz.ntmps134
  go_upto_region 2 with (go_at_call 45; refine C.mono ?_; rintro _ w1 ⟨rfl, R1⟩; clear C H)
  obtain ⟨A0, cc, n0, bk⟩ := R1.ok.bad_
  have f2 := bk.frozen 2
  have c0 := bk.at_ (i := 0) (v := .slice A0 L cc) rfl
  have c2 := bk.at_ (i := 2) (v := .bool s1.2) rfl
  have R2 := R1.set_
  clear bk
  rcases E with ⟨d1, rfl⟩ | ⟨d1, d2, rfl⟩ | ⟨d1, d2, rfl⟩
  all_goals
    (go_wp2
     go_ret
     first | exact ⟨rfl, R2⟩ | exact ⟨rfl, R1⟩)
theorem dtruth_calls (L : Nat) (w0 w : World) (g : Nat) (F : Nat → Prop) (s : RdS) (H : DdOK L w0 w g F s) :
    Calls Tryz.prog 93 #[.pointer (some ⟨g, 0, none⟩)] w fun e w' => e = .returned (.bool (rTruth s).1) ∧ DReads L w0 g F (rTruth s).2 w w' := by
  have C := dw_calls L w0 w g F s H
  obtain ⟨t, s1, q0⟩ : ∃ a s', pWord s = (a, s') := ⟨_, _, rfl⟩
  have hR : rTruth s = (t == yesT true, s1.1, s1.2 || (t != yesT true && t != yesT false)) := by unfold rTruth; rw [q0]
  rw [hR]
  rw [q0] at C
  clear q0 hR
  dsimp only at C
  have h1 : ((bstr t).toList == [121, 101, 115]) = (t == yesT true) := yes_eq t
  have h2 : ((bstr t).toList == [110, 111]) = (t == yesT false) := by rw [bstr_list]; rfl
  obtain ⟨ws, bad⟩ := s1
  dsimp only
  go_enter Tryz.func93, Tryz.ntmps93
  go_upto_region 2 with (go_at_call 46; refine C.mono ?_; rintro _ w1 ⟨rfl, R1⟩; clear C H)
  obtain ⟨A0, cc, n0, bk⟩ := R1.ok.bad_
  have f2 := bk.frozen 2
  have RB := fun b => R1.setB b
  cases bad with
  | true =>
    have c2 := bk.at_ (i := 2) (v := .bool true) rfl
    clear bk
    go_wp2
    go_ret
    exact ⟨rfl, RB true⟩
  | false =>
    have c2 := bk.at_ (i := 2) (v := .bool false) rfl
    clear bk
    by_cases k1 : t = yesT true
    · subst k1
      go_wp2
      go_ret
      exact ⟨rfl, RB false⟩
    · by_cases k2 : t = yesT false
      · subst k2
        go_wp2
        go_ret
        exact ⟨rfl, RB false⟩
      · have e1 : (t == yesT true) = false := beq_eq_false_iff_ne.2 k1
        have e2 : (t == yesT false) = false := beq_eq_false_iff_ne.2 k2
        have e3 : (t != yesT true) = true := bne_iff_ne.2 k1
        have e4 : (t != yesT false) = true := bne_iff_ne.2 k2
        rw [e1] at h1
        rw [e2] at h2
        go_wp2
        go_ret
        exact ⟨rfl, RB true⟩
end Go.Proofs.YtiokbebodblhaaaGreatDoor
namespace Go.Proofs.YtiokbebodblhaaaGreatDoor
open Go.RowKit TraceP

/-- What stands since the world wb: nothing that was there has turned but the reader's own block. -/
structure DHold (L : Nat) (w0 wb : World) (g : Nat) (F : Nat → Prop) (s : RdS) (w : World) : Prop where
  ok : DdOK L w0 w g (fun k => F k ∨ wb.heap.size ≤ k) s
  kept : Kept (fun k => k = g) wb w
  lt : g < wb.heap.size
  hF : F g
  lo : w0.heap.size ≤ wb.heap.size
section
variable {L : Nat} {w0 wb w w' : World} {g b : Nat} {F : Nat → Prop} {s s' : RdS}
theorem DHold.start (H : DdOK L w0 w g F s) : DHold L w0 w g F s w := ⟨H.more (Below.refl _ _), Kept.refl _ _, H.lt, H.hF, H.below.size⟩
theorem DHold.call (h : DHold L w0 wb g F s w) (R : DReads L w0 g (fun k => F k ∨ wb.heap.size ≤ k) s' w w') : DHold L w0 wb g F s' w' := ⟨R.ok, h.kept.trans R.kept, h.lt, h.hF, h.lo⟩
theorem DHold.below (h : DHold L w0 wb g F s w) (d : Below w.heap.size w w') : DHold L w0 wb g F s w' := ⟨h.ok.kept d, h.kept.trans (Kept.of_below d _), h.lt, h.hF, h.lo⟩
theorem DHold.alloc (h : DHold L w0 wb g F s w) (o : Obj) : DHold L w0 wb g F s (w.alloc o) := h.below ((Below.refl _ _).alloc (Nat.le_refl _) o)
theorem DHold.drew (h : DHold L w0 wb g F s w) : DHold L w0 wb g F s w.drew := h.below ((Below.refl w.heap.size w).drew)
theorem DHold.more (h : DHold L w0 wb g F s w) (K : Kept (fun k => wb.heap.size ≤ k) w w') : DHold L w0 wb g F s w' :=
  ⟨h.ok.keptF K fun k hk => ⟨.inr hk, by have := h.lt; omega, Nat.le_trans h.lo hk⟩, ⟨K.os.trans h.kept.os, K.tape.trans h.kept.tape, K.output.trans h.kept.output, Nat.le_trans h.kept.size K.size, fun k hk hg => (K.block k (Nat.lt_of_lt_of_le hk h.kept.size) (by omega)).trans (h.kept.block k hk hg)⟩, h.lt, h.hF, h.lo⟩
theorem DHold.set {p : Addr} (h : DHold L w0 wb g F s w) (hp : wb.heap.size ≤ p.block) (u : Value) : DHold L w0 wb g F s (w.setCell p u) := h.more ((Kept.refl _ w).setCell (.inl hp) u)
theorem DHold.setRow {c : Nat} (h : DHold L w0 wb g F s w) (hp : wb.heap.size ≤ c) (cs : Array Value) : DHold L w0 wb g F s (w.setRow c cs) :=
  h.more ⟨rfl, rfl, rfl, by simp, fun k _ hk => setRow_far cs 0 (by omega)⟩
theorem DHold.size (h : DHold L w0 wb g F s w) : wb.heap.size ≤ w.heap.size := h.kept.size
theorem DHold.done (h : DHold L w0 wb g F s w) : DReads L w0 g F s wb w := ⟨h.ok.less h.hF, h.kept⟩
theorem Blk.rdD {T : TypeId} {cs : Array Value} {G : Nat → Prop} (h : Blk w b T cs) (R : DReads L w0 g G s' w w') (hb : b ≠ g) : Blk w' b T cs := (R.kept.block b h.lt hb).trans h
end
/-- A method of a reader fills block b, of type T: what the reader has left, what stands in the block. -/
structure DHolds (L : Nat) (w0 w1 : World) (g b : Nat) (F : Nat → Prop) (T : TypeId) (s : RdS) (cs : Array Value) (w : World) : Prop where
  ok : DdOK L w0 w g (fun k => F k ∨ b ≤ k) s
  blk : Blk w b T cs
  kept : Kept (fun k => k = g ∨ k = b) w1 w
  lt : g < b
  hF : F g
  lo : w0.heap.size ≤ b
  sz : b < w1.heap.size
section
variable {L : Nat} {w0 w1 w w' : World} {g b : Nat} {F : Nat → Prop} {T : TypeId} {s s' : RdS} {cs : Array Value}
theorem DHolds.start {w : World} (H : DdOK L w0 w g F s) (T : TypeId) (cs : Array Value) : DHolds L w0 (w.alloc (.cells cs T)) g w.heap.size F T s cs (w.alloc (.cells cs T)) :=
  ⟨H.more (below_new w (.cells cs T)), Blk.new w T cs, Kept.refl _ _, H.lt, H.hF, H.below.size, by simp⟩
theorem DHolds.size (h : DHolds L w0 w1 g b F T s cs w) : b + 1 ≤ w.heap.size := Nat.le_trans h.sz h.kept.size
theorem DHolds.call (h : DHolds L w0 w1 g b F T s cs w) (R : DReads L w0 g (fun k => F k ∨ b ≤ k) s' w w') : DHolds L w0 w1 g b F T s' cs w' :=
  ⟨R.ok, (R.kept.block b h.blk.lt (by have := h.lt; omega)).trans h.blk, h.kept.trans (R.kept.mono fun k _ hk => .inl hk), h.lt, h.hF, h.lo, h.sz⟩
theorem DHolds.below (h : DHolds L w0 w1 g b F T s cs w) (d : Below w.heap.size w w') : DHolds L w0 w1 g b F T s cs w' :=
  ⟨h.ok.kept d, h.blk.below d h.blk.lt, h.kept.trans (Kept.of_below d _), h.lt, h.hF, h.lo, h.sz⟩
theorem DHolds.drew (h : DHolds L w0 w1 g b F T s cs w) : DHolds L w0 w1 g b F T s cs w.drew := h.below ((Below.refl w.heap.size w).drew)
theorem DHolds.set (h : DHolds L w0 w1 g b F T s cs w) (i : Nat) (u : Value) : DHolds L w0 w1 g b F T s (cs.setIfInBounds i u) (w.setCell ⟨b, i, none⟩ u) :=
  ⟨h.ok.far (p := ⟨b, i, none⟩) (by have := h.lt; show b ≠ g; omega) (.inr (Nat.le_refl _)) h.lo u, h.blk.set_ i u, h.kept.setCell (p := ⟨b, i, none⟩) (.inl (.inr rfl)) u, h.lt, h.hF, h.lo, h.sz⟩
theorem DHolds.mid : ∀ (vs : List Value) (o : Nat) {w : World} {cs : Array Value}, DHolds L w0 w1 g b F T s cs w → DHolds L w0 w1 g b F T s (putL cs o vs) (w.setCells b o vs)
  | [], _, _, _, h => h
  | v :: r, o, _, _, h => DHolds.mid r (o + 1) (h.set o v)
theorem DHolds.done {w : World} {o : Obj} (h : DHolds L w0 (w.alloc o) g w.heap.size F T s cs w') : DReads L w0 g F s w w' := by
  refine ⟨h.ok.less h.hF, ?_⟩
  have k1 : Kept (fun k => k = g ∨ k = w.heap.size) w (w.alloc o) := (Kept.refl _ w).alloc o
  exact (k1.trans h.kept).mono fun k hk hF => by
    rcases hF with e | e
    · exact e
    · omega
/-- The like, where the block was made somewhere on the way. -/
theorem DHolds.hold {wb wx : World} (hx : DHold L w0 wb g F s wx) (h : DHolds L w0 wx g b (fun k => F k ∨ wb.heap.size ≤ k) T s' cs w') (hb : wb.heap.size ≤ b) : DHold L w0 wb g F s' w' :=
  ⟨h.ok.less (.inl hx.hF), hx.kept.trans2 h.kept hb, hx.lt, hx.hF, hx.lo⟩
theorem DHolds.at_ (h : DHolds L w0 w1 g b F T s cs w) {i : Nat} {v : Value} (hv : cs[i]? = some v) : w.cell? ⟨b, i, none⟩ = some v := h.blk.at_ hv
theorem DHolds.row {α : Type} {c : α → List Value} {r : Row α} (_ : DHolds L w0 w1 g b F T s cs w) (k : RowN c (b + 1) w r) (R : DReads L w0 g (fun k => F k ∨ b ≤ k) s' w w') (lt : g < b) : RowN c (b + 1) w' r := k.kept R.kept fun i hi => by omega
end
section
variable {L : Nat}
theorem DHolds.to {w0 w1 w : World} {g b : Nat} {F : Nat → Prop} {T : TypeId} {s : RdS} {cs cs' : Array Value} (h : DHolds L w0 w1 g b F T s cs w) (e : cs = cs') : DHolds L w0 w1 g b F T s cs' w := e ▸ h
theorem DHolds.older {w0 w1 w : World} {g b k : Nat} {F : Nat → Prop} {T T' : TypeId} {s : RdS} {cs cs' : Array Value} (h : DHolds L w0 w1 g b F T s cs w) (hb : Blk w1 k T' cs') (hk : k < b) (hg : k ≠ g) : Blk w k T' cs' :=
  (h.kept.block k hb.lt (by omega)).trans hb
theorem DHolds.ownRow {w0 w1 w : World} {g b : Nat} {F : Nat → Prop} {T : TypeId} {s : RdS} {cs : Array Value} (h : DHolds L w0 w1 g b F T s cs w) (cs' : Array Value) : DHolds L w0 w1 g b F T s cs' (w.setRow b cs') := by
  have K : Kept (fun k => k = b) w (w.setRow b cs') := ⟨rfl, rfl, rfl, by simp, fun k _ hk => setRow_far cs' 0 (by omega)⟩
  have hl := h.lt
  exact ⟨h.ok.keptF K fun k hk => ⟨.inr (by omega), by omega, by have := h.lo; omega⟩, h.blk.setRow_ cs', h.kept.trans (K.mono fun k _ hk => .inr hk), h.lt, h.hF, h.lo, h.sz⟩
end
end Go.Proofs.YtiokbebodblhaaaGreatDoor
