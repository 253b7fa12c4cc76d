/-
  Rows of events that a call makes; walk of the program's Split. Printed by spgen.py.
-/
import Derived.Test.YtiokbebodblhaaaGreatDoorTAl
import Derived.Test.YtiokbebodblhaaaGreatDoorTPlain
import Derived.OwnWalk
namespace Go.Proofs.YtiokbebodblhaaaGreatDoor
open Go.RowKit TraceP
attribute [local go_sem] Row.val

theorem el_event : El Tryz.prog 48 45 (.agg zEvtR.cells.toArray) 57 664 := ⟨info_parts info_event, Tryz.underlying48, rfl, by decide⟩
/-- A row that lies in none of F's blocks. -/
structure RowX {α : Type} (c : α → List Value) (F : Nat → Prop) (w : World) (r : Row α) : Prop where
  le : r.l.length ≤ r.cap
  cap : r.cap ≤ 9223372036854775807
  rv : RVF w F r.A (fl c r.l)
theorem RowX.next {α : Type} {c : α → List Value} {F G H : Nat → Prop} {w w' : World} {r : Row α} (h : RowX c F w r) (K : Kept G w w') (hG : ∀ k, k < w.heap.size → G k → F k) (hH : ∀ k, k < w.heap.size → H k → F k) : RowX c H w' r :=
  ⟨h.le, h.cap, h.rv.next (K.mono hG) hH⟩
theorem RowN.toX {α : Type} {c : α → List Value} {B : Nat} {F : Nat → Prop} {w : World} {r : Row α} (h : RowN c B w r) (hF : ∀ k, F k → k < B) : RowX c F w r := ⟨h.le, h.cap, h.rv.mono fun k _ hk => hF k hk⟩
theorem RowX.toN {α : Type} {c : α → List Value} {F : Nat → Prop} {w : World} {r : Row α} (h : RowX c F w r) : RowN c 0 w r := ⟨h.le, h.cap, h.rv.mono fun k _ hk => absurd hk (Nat.not_lt_zero k)⟩
/-- An event whose rows lie in none of F's blocks. -/
structure EvtX (F : Nat → Prop) (w : World) (e : EvtR) : Prop where
  specs : RowX spC F w e.req.specs
  mtch : RowX tgC F w e.req.mtch
  non : RowX tgC F w e.req.non
  mkeys : RowX txC F w e.met.keys
  fields : RowX fdC F w e.ans.fields
  parts : RowX ptC F w e.ans.parts
  rkeys : RowX txC F w e.rep.met.keys
  bytes : RowX byC F w e.bytes
  keys : RowX txC F w e.keys
theorem EvtX.next {F G H : Nat → Prop} {w w' : World} {e : EvtR} (h : EvtX F w e) (K : Kept G w w') (hG : ∀ k, k < w.heap.size → G k → F k) (hH : ∀ k, k < w.heap.size → H k → F k) : EvtX H w' e :=
  ⟨h.specs.next K hG hH, h.mtch.next K hG hH, h.non.next K hG hH, h.mkeys.next K hG hH, h.fields.next K hG hH, h.parts.next K hG hH, h.rkeys.next K hG hH, h.bytes.next K hG hH, h.keys.next K hG hH⟩
theorem EvtX.below {F : Nat → Prop} {w w' : World} {e : EvtR} (h : EvtX F w e) (d : Below w.heap.size w w') : EvtX F w' e := h.next (Kept.of_below d (fun _ => False)) (fun _ _ h => h.elim) (fun _ _ h => h)
theorem EvtN.toX {B : Nat} {F : Nat → Prop} {w : World} {e : EvtR} (h : EvtN B w e) (hF : ∀ k, F k → k < B) : EvtX F w e :=
  ⟨h.specs.toX hF, h.mtch.toX hF, h.non.toX hF, h.mkeys.toX hF, h.fields.toX hF, h.parts.toX hF, h.rkeys.toX hF, h.bytes.toX hF, h.keys.toX hF⟩
theorem EvtX.ok {F : Nat → Prop} {w : World} {e : EvtR} (h : EvtX F w e) (p : EvtP e.abs) : EvtOK w e :=
  EvtN.ok (B := 0) ⟨h.specs.toN, h.mtch.toN, h.non.toN, h.mkeys.toN, h.fields.toN, h.parts.toN, h.rkeys.toN, h.bytes.toN, h.keys.toN⟩ p
/-- Events that a call has put into a row of its own. -/
structure EvsX (B : Nat) (w : World) (v : Value) (l : List EvtR) : Prop where
  own : w.ownsRow B 45 57 v l.length (fl EvtR.cells l)
  x : ∀ e ∈ l, EvtX (fun k => v.ownBlock = some k) w e ∧ EvtP e.abs
theorem EvsX.nil (B : Nat) (w : World) : EvsX B w (.slice none 0 0) [] := ⟨⟨rfl, .inl ⟨rfl, rfl⟩⟩, fun _ h => absurd h List.not_mem_nil⟩
theorem EvsX.below {B : Nat} {w w' : World} {v : Value} {l : List EvtR} (h : EvsX B w v l) (d : Below w.heap.size w w') : EvsX B w' v l :=
  ⟨own_below h.own d (fun k hk => (h.own.lt k hk).2), fun e he => ⟨(h.x e he).1.below d, (h.x e he).2⟩⟩
theorem EvsX.push {B : Nat} {w w' : World} {v v' : Value} {l : List EvtR} {e : EvtR} (h : EvsX B w v l) (he : EvtX (fun k => v.ownBlock = some k) w e) (hp : EvtP e.abs)
    (own : w'.ownsRow B 45 57 v' (l.length + 1) (fl EvtR.cells l ++ e.cells)) (gr : w.grownBy w' v.ownBlock) (hv : v'.ownBlock = v.ownBlock ∨ v'.ownBlock = some w.heap.size) : EvsX B w' v' (l ++ [e]) := by
  have K : Kept (fun k => v.ownBlock = some k) w w' := (Kept.refl _ w).grown gr (fun k hk => .inl hk)
  have hH : ∀ k, k < w.heap.size → v'.ownBlock = some k → v.ownBlock = some k := fun k hk h1 => by
    rcases hv with h2 | h2
    · rw [← h2]; exact h1
    · rw [h2] at h1; injection h1 with h1; omega
  refine ⟨by rw [List.length_append, List.length_singleton, fl_append, fl_one]; exact own, fun x hx => ?_⟩
  rcases List.mem_append.1 hx with hx | hx
  · exact ⟨(h.x x hx).1.next K (fun _ _ h => h) hH, (h.x x hx).2⟩
  · rw [List.mem_singleton] at hx
    subst hx
    exact ⟨he.next K (fun _ _ h => h) hH, hp⟩
theorem EvsX.ok {B : Nat} {w : World} {v : Value} {l : List EvtR} (h : EvsX B w v l) : ∃ A c, v = .slice A l.length c ∧ EvsOK w A l c := by
  obtain ⟨A, c, rfl, h1, h2⟩ := own_form h.own
  exact ⟨A, c, rfl, (RVF.of_own (F := fun _ => False) h.own (fun _ h => h.elim)).rv, h1, h2, fun e he => (h.x e he).1.ok (h.x e he).2⟩
theorem cut_nl : ∀ s : Txt, Lib.cut s [10] = ((cutN s).1, (cutN s).2.getD [], (cutN s).2.isSome)
  | [] => by unfold Lib.cut Lib.index; simp [cutN]
  | c :: r => by
    have ih := cut_nl r
    unfold Lib.cut at ih ⊢
    unfold cutN
    by_cases h : c = 10
    · subst h
      have e : Lib.index (10 :: r) [10] = 0 := by unfold Lib.index; simp
      rw [e]
      simp
    · have e : Lib.index (c :: r) [10] = if Lib.index r [10] == -1 then -1 else Lib.index r [10] + 1 := by
        conv => lhs; unfold Lib.index
        rw [if_neg (by simp [Ne.symm h])]
      have hge := Lib.index_ge r [10]
      rw [if_neg h, e]
      by_cases h1 : Lib.index r [10] = -1
      · rw [h1] at ih ⊢
        simp at ih ⊢
        exact ih
      · have h2 : (Lib.index r [10] == -1) = false := beq_eq_false_iff_ne.2 h1
        have h3 : 0 ≤ Lib.index r [10] := by omega
        rw [h2]
        rw [if_pos h3] at ih
        simp only [Bool.false_eq_true, if_false]
        rw [if_pos (by omega), show (Lib.index r [10] + 1).toNat = (Lib.index r [10]).toNat + 1 by omega]
        simp only [List.take_succ_cons, List.length_singleton, List.drop_succ_cons]
        injection ih with i1 i2
        injection i2 with i2 i3
        simp only [List.length_singleton] at i2
        rw [i1, i2, i3]
theorem drewN_below (w : World) (q : Nat) : Below w.heap.size w (w.drewN q) := ⟨rfl, rfl, rfl, Nat.le_refl _, fun _ _ => rfl⟩
theorem below_grownS {w w1 w2 : World} {row : Option Nat} (h : Below w.heap.size w w1) (g : w1.grownBy w2 row) (hr : ∀ k, row = some k → w.heap.size ≤ k) : Below w.heap.size w w2 :=
  ((Kept.of_below h (fun _ => False)).grown g (fun k hk => .inr (hr k hk))).below (fun _k _ hF => hF.elim) (Nat.le_refl _)
theorem cutN_le : ∀ s : Txt, (cutN s).1.length ≤ s.length
  | [] => Nat.le_refl _
  | c :: r => by
    have := cutN_le r
    unfold cutN
    split
    · exact Nat.zero_le _
    · simp only [List.length_cons]
      omega
theorem parE_P {s : Txt} {e : Evt} (h : parE s = some e) : EvtP e := by
  unfold parE at h
  split at h
  · cases h
  · rename_i hs
    split at h
    · cases h
    · split at h
      · injection h with h
        subst h
        exact (evt_out (words_sh (by omega))).1
      · cases h
/-- What Split tells: events, a line's number, an error's. -/
def RetSpl (w : World) (res : List Evt × Int × Int) (r : Ending) (w' : World) : Prop :=
  ∃ (v : Value) (l : List EvtR), r = .returned (.tuple #[v, .int .i64 res.2.1, .int .i64 res.2.2]) ∧ absL l = res.1 ∧ EvsX w.heap.size w' v l ∧ Below w.heap.size w w'
set_option maxRecDepth 100000 in
set_option maxHeartbeats 3200000 in
theorem split2_calls (w : World) (hS : Std w) (s0 : Txt) (hl0 : s0.length ≤ 100000000) :
    Calls Tryz.prog 22 #[.string (bstr s0)] w fun r w' => RetSpl w (splitS parE s0 []) r w' := by
  obtain ⟨res, hres⟩ : ∃ x, x = splitS parE s0 [] := ⟨_, rfl⟩
  rw [← hres]
  replace hres := Lib.hid hres.symm
  go_enter Tryz.func22, Tryz.ntmps22
  go_wp2_with fail
  go_loopw [0, 5] (fun sv v wr => ∃ (s : Txt) (l : List EvtR), sv = .string (bstr s) ∧ EvsX w.heap.size wr v l ∧ Below w.heap.size w wr ∧ Hid (splitS parE s (absL l) = res) ∧ s.length + l.length ≤ s0.length) (fun sv _ _ => (match sv with | .string b => b.size | _ => 0))
  case atStart => exact ⟨s0, [], rfl, EvsX.nil _ _, Below.refl _ _, hres, Nat.le_refl _⟩
  case round =>
    obtain ⟨s, l, rfl, hX, B, G, hle⟩ := hrel
    have hwr := B.size
    obtain ⟨A, c, hv, hnc, hcm⟩ := own_form hX.own
    subst hv
    by_cases hs : s = []
    · subst hs
      have h2 : (bstr []).toList.isEmpty = true := by rw [bstr_list]; rfl
      have hr := G.out
      rw [splitS_nil] at hr
      go_wp2_with fail
      go_ret3
      refine ⟨_, l, ?_, by rw [← hr], hX, B⟩
      rw [← hr]
      rfl
    · have h2 : (bstr s).toList.isEmpty = false := by
        rw [bstr_list]
        cases s with
        | nil => exact absurd rfl hs
        | cons _ _ => rfl
      obtain ⟨_, _, _, ⟨m, hm⟩, _⟩ := hS.below B
      have CC := Tryz.strings_Cut (bstr s) ⟨#[10]⟩ m wr (by rw [bstr_size]; omega) hm
      have e1 : (bstr s).data.toList = s := by simp [bstr]
      have e2 : (⟨#[10]⟩ : ByteArray).data.toList = [10] := rfl
      rw [e1, e2, cut_nl] at CC
      dsimp only at CC
      obtain ⟨t, ro, qc⟩ : ∃ a b, cutN s = (a, b) := ⟨_, _, rfl⟩
      have htl : t.length ≤ s.length := by have := cutN_le s; rw [qc] at this; exact this
      have hro : ∀ r, ro = some r → r.length < s.length := fun r h => cutN_len (s := s) (by rw [qc]; exact h)
      rw [qc] at CC
      dsimp only at CC
      clear e1 e2 hm
      go_upto_region 4 with (go_at_call 53; refine CC.mono ?_; rintro _ w1 ⟨rfl, n, rfl⟩; have d1 := drewN_below wr n; generalize wr.drewN n = w1 at *; clear CC)
      have X1 := hX.below d1
      have B1 := B.trans (d1.mono hwr)
      have PC := parse_calls w1 (hS.below B1) t
      clear hX d1
      with_reducible refine wp_region_lit ?_
      with_reducible refine wpList_cutAt 5 ?_
      simp only [List.take_succ_cons, List.take_zero, List.drop_succ_cons, List.drop_zero]
      go_wp2_with (go_at_call 15; refine PC.mono ?_; rintro _ w2 ⟨e, rfl, he, N, B2⟩; clear PC)
      with_reducible refine CutQ.go_ ?_
      with_reducible refine wpList_cutAt 1 ?_
      simp only [List.take_succ_cons, List.take_zero, List.drop_succ_cons, List.drop_zero]
      repeat (first | go_values | go_skip | go_guarded | go_step | go_upon)
      with_reducible refine CutQ.go_ ?_
      have X2 := X1.below B2
      have hlt1 := X1.own.lt
      have EX := EvtN.toX (F := fun k => _ = some k) N fun k hk => (hlt1 k hk).2
      have BB := B1.trans (B2.mono B1.size)
      have hb0 : w.heap.size ≤ w2.heap.size := BB.size
      have bE0 := Blk.new w2 45 zEvtR.cells.toArray
      have dE0 := below_new w2 (.cells zEvtR.cells.toArray 45)
      with_reducible refine wpList_abs (fun w' => Blk w' w2.heap.size 45 zEvtR.cells.toArray ∧ Below w2.heap.size w2 w') ?_ ?_
      · exact ⟨bE0, dE0⟩
      clear bE0 dE0
      rintro w3 ⟨bE0, dE0⟩
      have bE' : w3.heap[w2.heap.size]? = some (Obj.cells zEvtR.cells.toArray 45) := bE0
      with_reducible refine wpList_store_row rfl 45 (.tmp 9) (.tmp 22) rfl w2.heap.size e.cells.toArray (by kernel_rfl) (by kernel_rfl) 45 zEvtR.cells.toArray bE' (by kernel_rfl) (by kernel_rfl) (by kernel_rfl) ?_
      have bE := bE0.setRow_ e.cells.toArray
      have dE := below_setRow dE0 (Nat.le_refl _) e.cells.toArray
      revert bE dE
      generalize w3.setRow w2.heap.size e.cells.toArray = w4
      clear bE' bE0 dE0 w3
      intro bE dE
      simp only [Act.put]
      replace EX := EX.below dE
      have X4 := X2.below dE
      have B4 := BB.trans (dE.mono hb0)
      have hb2 := bE.lt
      obtain ⟨b1, hb1⟩ : ∃ b, b = w2.heap.size := ⟨_, rfl⟩
      rw [← hb1] at bE hb2 ⊢
      clear hb1 dE BB N B1 B2 hb0 X1 X2 hlt1 B
      have GG := G.out
      rw [splitS_ne parE _ hs, qc] at GG
      dsimp only at GG
      clear G
      have GOOD : ∀ r x, ro = some r → parE t = some x → splitS parE r (absL l ++ [x]) = res := fun r x h1 h2 => by rw [h1, h2] at GG; exact GG
      have BAD : ro = none ∨ parE t = none → res = ([], ((absL l).length : Int) + 1, 2) := fun h => by
        rcases h with h | h
        · rw [h] at GG; exact GG.symm
        · rw [h] at GG; cases ro <;> exact GG.symm
      clear GG
      replace GOOD := Lib.hid GOOD
      replace BAD := Lib.hid BAD
      have hlen := absL_len l
      have W : (ro = none) ∨ (∃ r, ro = some r ∧ parE t = none) ∨ (∃ r x, ro = some r ∧ parE t = some x) := by
        cases ro with
        | none => exact .inl rfl
        | some r =>
          cases hp : parE t with
          | none => exact .inr (.inl ⟨r, rfl, rfl⟩)
          | some x => exact .inr (.inr ⟨r, x, rfl, rfl⟩)
      obtain ⟨pn, hpn⟩ : ∃ n, n = parN t := ⟨_, rfl⟩
      rw [← hpn]
      have hpv : pn = if (parE t).isSome then 0 else 2 := hpn
      clear hpn
      rcases W with rfl | ⟨r, rfl, hp⟩ | ⟨r, x, rfl, hp⟩
      · have hr := BAD.out (.inl rfl)
        rw [hlen] at hr
        have wk : wrap64 ((l.length : Int) + 1) = (l.length : Int) + 1 := by unfold wrap64; omega
        clear GOOD BAD hpv he hle hl0 htl
        dsimp only [Option.getD, Option.isSome] at *
        go_wp2_with fail
        go_ret3
        refine ⟨.slice none 0 0, [], ?_, by rw [hr]; rfl, EvsX.nil _ _, B4⟩
        rw [hr]
        show Ending.returned (Value.tuple #[.slice none 0 0, .int .i64 (wrap64 ((l.length : Int) + 1)), .int .i64 2]) = Ending.returned (Value.tuple #[.slice none 0 0, .int .i64 ((l.length : Int) + 1), .int .i64 2])
        rw [wk]
      · have hr := BAD.out (.inr hp)
        rw [hp] at hpv
        have hpv2 : pn = 2 := hpv
        subst hpv2
        rw [hlen] at hr
        have wk : wrap64 ((l.length : Int) + 1) = (l.length : Int) + 1 := by unfold wrap64; omega
        have c2 : ((2 : Int) != 0) = true := rfl
        clear GOOD BAD hpv he hle hl0 htl
        dsimp only [Option.getD, Option.isSome] at *
        go_wp2_with fail
        go_ret3
        refine ⟨.slice none 0 0, [], ?_, by rw [hr]; rfl, EvsX.nil _ _, B4⟩
        rw [hr]
        show Ending.returned (Value.tuple #[.slice none 0 0, .int .i64 (wrap64 ((l.length : Int) + 1)), .int .i64 2]) = Ending.returned (Value.tuple #[.slice none 0 0, .int .i64 ((l.length : Int) + 1), .int .i64 2])
        rw [wk]
      · have hr := Lib.hid (GOOD.out r x rfl hp)
        rw [hp] at hpv he
        have hpv2 : pn = 0 := hpv
        subst hpv2
        have he2 : e.abs = x := he
        have hP : EvtP e.abs := by rw [he2]; exact parE_P hp
        have c2 : ((0 : Int) != 0) = false := rfl
        have hrl := hro r rfl
        have hX' : w4.heap[b1]? = some (Obj.cells e.cells.toArray 45) := bE
        clear GOOD BAD hpv he hro
        dsimp only [Option.getD, Option.isSome] at *
        go_upto_region 7 with (fail)
        have own1 := own_below X4.own (below_new w4 (.cells e.cells.toArray 45)) (fun k hk => (X4.own.lt k hk).2)
        have EX1 := EX.below (below_new w4 (.cells e.cells.toArray 45))
        have X5 := X4.below (below_new w4 (.cells e.cells.toArray 45))
        have B5 := B4.trans ((below_new w4 (.cells e.cells.toArray 45)).mono B4.size)
        have rv5 := RV.new w4 e.cells 45 (0, 0)
        with_reducible refine wp_region_lit ?_
        with_reducible refine wpList_cutAt 1 ?_
        simp only [List.take_succ_cons, List.take_zero, List.drop_succ_cons, List.drop_zero]
        repeat (first | go_values | go_skip | go_guarded | go_step | go_upon)
        with_reducible refine CutQ.go_ ?_
        with_reducible refine wpList_load_row rfl 45 (.tmp 9) rfl b1 (by kernel_rfl) 45 e.cells.toArray (0, 0) _ hX' Tryz.underlying45 (by kernel_rfl) (by kernel_rfl) ?_
        go_frame
        with_reducible refine wpList_one (by kernel_rfl) fun K hK => ?_
        refine wp_row1 (.tmp 34) rfl e (by kernel_rfl) ?_
        refine hK _ _ ?_
        go_frame
        clear hK
        with_reducible refine wpList_append_rv el_event rfl (.tmp 33) (.tmp 35) rfl w.heap.size (.slice A l.length c) l.length (fl EvtR.cells l) (by kernel_rfl) own1 (some ⟨w4.heap.size, 0, none⟩) 1 1 e.cells (by kernel_rfl) (by kernel_rfl) rv5 (EvtR.cells_one e) ?f2 ?f3 ?f4 ?_
        case f2 => unfold maxLen; omega
        case f3 => omega
        case f4 => exact B5.size
        intro v' w6 own6 gr hv
        have X6 := X5.push EX1 hP own6 gr hv
        have B6 : Below w.heap.size w w6 := below_grownS B5 gr (fun k hk => (X5.own.lt k hk).1)
        clear gr hv own6 own1 rv5 X5 EX1 EX X4 B4 B5 hX' bE
        go_wp2_with fail
        go_roundw
        case rel => exact ⟨r, l ++ [e], rfl, X6, B6, by rw [show absL (l ++ [e]) = absL l ++ [e.abs] by simp [absL], he2]; exact hr, by rw [List.length_append, List.length_singleton]; omega⟩
        case measure => show r.length < s.length; exact hrl
end Go.Proofs.YtiokbebodblhaaaGreatDoor
