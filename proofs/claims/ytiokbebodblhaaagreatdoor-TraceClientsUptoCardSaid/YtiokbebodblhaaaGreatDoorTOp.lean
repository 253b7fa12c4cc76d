/-
  How an argument that is a slice is opened: the rows of its elements, each with its own reading; bytes, bools, numbers.
-/
import Derived.Test.YtiokbebodblhaaaGreatDoorTMemo
import Derived.ProofKit
import Derived.OpenShut
import Derived.ShutString
import Derived.ChangeOld
import Derived.Deep.Slices
import Derived.Test.YtiokbebodblhaaaGreatDoorRows
namespace Go.Proofs.YtiokbebodblhaaaGreatDoor
open Go.ChangeShapes Go.WideShapes Go.ChangeAt Go.RowKit Go.Deep

section
variable {H : Type} {enc : TypeId × Value → H} {P : Program} {W : World} {sp : Nat → Bool} {v : Value} {x : DataW H × List MemPlace} {fuel : Nat}
theorem flat_get2 {rows : List (List Value)} {k : Nat} (hr : ∀ r ∈ rows, r.length = k) (j : Nat) (hk : 0 < k) : rows.flatten[j]? = (rows[j / k]?).bind (·[j % k]?) := by
  induction rows generalizing j with
  | nil => simp
  | cons r rows ih =>
    have h0 : r.length = k := hr r (by simp)
    rw [List.flatten_cons]
    by_cases hj : j < k
    · rw [List.getElem?_append_left (by omega), Nat.div_eq_of_lt hj, Nat.mod_eq_of_lt hj]
      rfl
    · rw [List.getElem?_append_right (by omega), h0, ih (fun r hr' => hr r (by simp [hr']))]
      have e1 : j / k = (j - k) / k + 1 := by
        have := Nat.add_div_right (j - k) hk
        rw [show j - k + k = j by omega] at this
        exact this
      have e2 : (j - k) % k = j % k := by
        have := Nat.add_mod_right (j - k) k
        rw [show j - k + k = j by omega] at this
        exact this.symm
      rw [e1, e2]; rfl
theorem u8_of' {x : Int} (h : (Lit.int .u8 x).wf = true) : ∃ c : UInt8, x = (c.toNat : Int) := by
  have hb : 0 ≤ x ∧ x ≤ 255 := by simpa [Lit.wf, IntKind.min, IntKind.max, IntKind.signed, IntKind.bits] using h
  refine ⟨UInt8.ofNat x.toNat, ?_⟩
  rw [UInt8.toNat_ofNat']
  omega
/-- A slice's reading, as the openers want it. -/
theorem trod_one {t e : TypeId} {base : Nat} {d : DataW H} {p : List MemPlace} (ht : P.underlying t = some (.slice e)) (hv : Value.okWide P W .any base t v) (h : DataW.Trod enc P W 0 sp true t v d p) :
    ∃ n, DataW.trod enc P W 0 sp true n t [v] = some (d, p) := by
  obtain ⟨a, len, cap, rfl⟩ := okWide_slice ht hv
  exact h
end
end Go.Proofs.YtiokbebodblhaaaGreatDoor
namespace Go.Proofs.YtiokbebodblhaaaGreatDoor
open Go.ChangeShapes Go.WideShapes Go.ChangeAt Go.RowKit Go.Deep TraceP

/-- What the second form bounds. -/
def BigT (t : Txt) : Prop := t.length ≤ 1048576
def BigL {α : Type} (p : α → Prop) (l : List α) : Prop := l.length ≤ 1048576 ∧ ∀ a ∈ l, p a
structure BigE (e : Evt) : Prop where
  object : BigT e.object
  robj : BigT e.req.object
  specs : e.req.specs.length ≤ 1048576
  mtch : BigL (fun t => BigT t.text) e.req.cond.mtch
  non : BigL (fun t => BigT t.text) e.req.cond.non
  range : BigT e.req.cond.range.text
  tag : BigT e.met.tag.text
  mkeys : BigL BigT e.met.keys
  tenant : BigT e.met.tenant
  fields : BigL (fun f => BigT f.name ∧ BigT f.value) e.ans.fields
  parts : BigL (fun p => BigT p.text) e.ans.parts
  fobj : BigT e.fet.object
  fmat : BigT e.fet.mtch.text
  fnon : BigT e.fet.non.text
  rtag : BigT e.rep.met.tag.text
  rkeys : BigL BigT e.rep.met.keys
  rten : BigT e.rep.met.tenant
  bytes : e.bytes.length ≤ 1048576
  keys : BigL BigT e.keys
theorem bulk_part {H : Type} {d : DataW H} {l : List (DataW H)} (h : d ∈ l) : Rows.uptoBulk d ≤ Rows.uptoBulkAll l := by
  induction l with
  | nil => cases h
  | cons x r ih =>
    simp only [Rows.uptoBulkAll]
    cases List.mem_cons.1 h with
    | inl e => subst e; omega
    | inr e => have := ih e; omega
theorem bulk_one {H : Type} (d : DataW H) : 1 ≤ Rows.uptoBulk d := by
  cases d with
  | lit l => cases l <;> simp [Rows.uptoBulk]
  | nil => simp [Rows.uptoBulk]
  | ptr d => simp [Rows.uptoBulk]
  | slice elems spare => simp [Rows.uptoBulk]
  | agg parts => simp [Rows.uptoBulk]
  | iface t d => simp [Rows.uptoBulk]
  | map entries => simp [Rows.uptoBulk]
  | held h => simp [Rows.uptoBulk]
theorem bulk_len {H : Type} (l : List (DataW H)) : l.length ≤ Rows.uptoBulkAll l := by
  induction l with
  | nil => simp [Rows.uptoBulkAll]
  | cons x r ih => have := bulk_one x; simp only [Rows.uptoBulkAll, List.length_cons]; omega
theorem agg_small {H : Type} {xs : List (DataW H × List MemPlace)} {m : Nat} (h : Rows.uptoBulk (.agg (xs.map (·.1))) ≤ m) (i : Nat) (hi : i < xs.length) : Rows.uptoBulk (xs[i]'hi).1 ≤ m := by
  have := bulk_part (d := (xs[i]'hi).1) (l := xs.map (·.1)) (List.mem_map.2 ⟨_, List.getElem_mem hi, rfl⟩)
  simp only [Rows.uptoBulk] at h
  omega
theorem map_ofB {α β : Type} {p : α → Prop} (f : α → β) {vs : List β} (h : ∀ u ∈ vs, ∃ a, p a ∧ u = f a) : ∃ l : List α, vs = l.map f ∧ ∀ a ∈ l, p a := by
  induction vs with
  | nil => exact ⟨[], rfl, by simp⟩
  | cons u vs ih =>
    obtain ⟨a, ha, rfl⟩ := h u (by simp)
    obtain ⟨l, rfl, hl⟩ := ih (fun u hu => h u (by simp [hu]))
    exact ⟨a :: l, rfl, by simpa using ⟨ha, hl⟩⟩
theorem i64_ofB {x : Int} (h : (Lit.int .i64 x).wf = true) : I64 x := by
  unfold I64
  simpa [Lit.wf, IntKind.min, IntKind.max, IntKind.signed, IntKind.bits] using h
section
variable {H : Type} {enc : TypeId × Value → H} {P : Program} {W : World} {sp : Nat → Bool} {v : Value} {x : DataW H × List MemPlace} {fuel : Nat}
theorem rows_ofB {t e : TypeId} {k m0 : Nat} (ht : P.underlying t = some (.slice e)) (hk : P.cellsOf e = k) (hpos : 0 < k) (h : DataW.trod enc P W 0 sp true fuel t [v] = some x) (hw : Rows.uptoBulk x.1 ≤ m0) :
    ∃ (rows : List (List Value)) (A : Option Addr) (cap : Nat), v = .slice A rows.length cap ∧ rows.length ≤ cap ∧ cap ≤ maxLen ∧ RV W A rows.flatten ∧ rows.length ≤ m0 ∧
      ∀ r ∈ rows, r.length = k ∧ ∃ n d, DataW.trod enc P W 0 sp true n e r = some d ∧ Rows.uptoBulk d.1 ≤ m0 := by
  rcases open_slice ht h with ⟨h0, _⟩ | ⟨a, len, cap, m, n, D, Pl, hcs, hb, hl, hm, hmm, hx, hi⟩
  · simp at h0
    subst h0
    exact ⟨[], none, 0, rfl, Nat.le_refl _, Nat.zero_le _, RV.nil, Nat.zero_le _, (fun r hr => by cases hr)⟩
  · simp at hcs
    subst hcs
    rw [hk] at hi
    have hlm : len ≤ m := by rw [hmm]; split <;> omega
    have hw' : Rows.uptoBulkAll ((List.range len).map D) ≤ m0 := by
      rw [hx] at hw
      simp only [Rows.uptoBulk] at hw
      omega
    obtain ⟨R, hR⟩ := choose_lt (n := len) (p := fun i cs' => W.cells? 0 (a.add (i * k)) k = some cs' ∧ DataW.trod enc P W 0 sp true n e cs' = some (D i, Pl i)) (fun i hil => hi i (by omega))
    have hlen : ((List.range len).map R).length = len := by simp
    have hrl : ∀ r ∈ (List.range len).map R, r.length = k := by
      intro r hr
      simp only [List.mem_map, List.mem_range] at hr
      obtain ⟨i, hil, rfl⟩ := hr
      exact (World.cells?_some (hR i hil).1).2.1
    refine ⟨(List.range len).map R, some a, cap, by rw [hlen], by rw [hlen]; exact hl, hm, ?_, ?_, ?_⟩
    · intro hne
      have hlp : 0 < len := by
        rcases Nat.eq_zero_or_pos len with h0 | h0
        · subst h0; exact absurd rfl hne
        · exact h0
      have hc0 := (World.cells?_some (hR 0 hlp).1).2.2 0 hpos
      obtain ⟨b, off, spot⟩ := a
      have hsome : (R 0)[0]? = some ((R 0)[0]'(by rw [(World.cells?_some (hR 0 hlp).1).2.1]; exact hpos)) := List.getElem?_eq_getElem _
      rw [hsome] at hc0
      have hspot : spot = none := by simpa [Addr.add] using World.cell?_spot hc0
      subst hspot
      have hadd : ∀ j, (⟨b, off, none⟩ : Addr).add j = ⟨b, off + j, none⟩ := by intro j; unfold Addr.add; split <;> simp_all
      refine ⟨b, off, rfl, ?_, fun j u hu => ?_⟩
      · have := block_lt_of_cell hc0
        rw [add_add] at this
        rwa [hadd] at this
      · rw [flat_get2 hrl j hpos] at hu
        have hq : j / k < len := by
          rcases Nat.lt_or_ge (j / k) len with h | h
          · exact h
          · rw [List.getElem?_eq_none (by rw [hlen]; exact h)] at hu; cases hu
        rw [List.getElem?_map, List.getElem?_range hq] at hu
        simp only [Option.map_some, Option.bind_some] at hu
        have hc := (World.cells?_some (hR (j / k) hq).1).2.2 (j % k) (Nat.mod_lt _ hpos)
        rw [add_add, hadd, Nat.div_add_mod' j k] at hc
        rw [hc, hu]
    · rw [hlen]
      have := bulk_len ((List.range len).map D)
      rw [List.length_map, List.length_range] at this
      omega
    · intro r hr
      refine ⟨hrl r hr, ?_⟩
      simp only [List.mem_map, List.mem_range] at hr
      obtain ⟨i, hil, rfl⟩ := hr
      refine ⟨n, _, (hR i hil).2, ?_⟩
      have := bulk_part (d := D i) (l := (List.range len).map D) (List.mem_map.2 ⟨i, List.mem_range.2 hil, rfl⟩)
      show Rows.uptoBulk (D i) ≤ m0
      omega
end
section
variable {H : Type} {enc : TypeId × Value → H} {W : World} {sp : Nat → Bool} {v : Value} {x : DataW H × List MemPlace} {fuel : Nat}
theorem str_of (h : DataW.trod enc Tryz.prog W 0 sp true fuel 9 [v] = some x) (hw : Rows.uptoBulk x.1 ≤ 1048576) : ∃ t : Txt, BigT t ∧ v = .string (bstr t) := by
  obtain ⟨s, e, hx, _⟩ := DataW.trod_string Tryz.underlying9 h
  injection e with e
  subst e
  rw [hx] at hw
  simp only [Rows.uptoBulk] at hw
  exact ⟨s.data.toList, by unfold BigT; omega, by unfold bstr; simp⟩
theorem int_of {t : TypeId} (ht : Tryz.prog.underlying t = some (.int .i64)) (h : DataW.trod enc Tryz.prog W 0 sp true fuel t [v] = some x) : ∃ n : Int, I64 n ∧ v = .int .i64 n := by
  obtain ⟨z, e, _, w⟩ := DataW.trod_int ht h
  injection e with e
  exact ⟨z, i64_ofB w, e⟩
theorem bool_of (h : DataW.trod enc Tryz.prog W 0 sp true fuel 4 [v] = some x) : ∃ b : Bool, v = .bool b := by
  obtain ⟨z, e, _⟩ := DataW.trod_bool Tryz.underlying4 h
  injection e with e
  exact ⟨z, e⟩
theorem bytes_ofB (h : DataW.trod enc Tryz.prog W 0 sp true fuel 43 [v] = some x) (hw : Rows.uptoBulk x.1 ≤ 1048576) : ∃ R : Row UInt8, (RowOK byC W R ∧ R.l.length ≤ 1048576) ∧ v = R.val := by
  have hk : Tryz.prog.cellsOf 5 = 1 := by kernel_rfl
  obtain ⟨rows, A, cap, rfl, h1, h2, h3, h4, h5⟩ := rows_ofB (k := 1) Tryz.underlying43 hk (by omega) h hw
  obtain ⟨l, rfl, _⟩ := map_ofB (p := fun _ : UInt8 => True) byC (vs := rows) (fun r hr => by
    obtain ⟨hl, n, d, hd, _⟩ := h5 r hr
    obtain ⟨u, rfl⟩ : ∃ u, r = [u] := by
      match r, hl with
      | [u], _ => exact ⟨u, rfl⟩
    obtain ⟨z, e, _, w⟩ := DataW.trod_int Tryz.underlying5 hd
    obtain ⟨c, rfl⟩ := u8_of' w
    exact ⟨c, trivial, e⟩)
  rw [List.length_map] at h1 h4 
  refine ⟨⟨A, cap, l⟩, ⟨⟨h1, by unfold maxLen at h2; exact h2, h3⟩, h4⟩, ?_⟩
  rw [List.length_map]
  rfl

theorem lenB2 {r : List Value} (h : r.length = 2) : ∃ a0 a1, r = [a0, a1] := by
  match r, h with
  | [a0, a1], _ => exact ⟨a0, a1, rfl⟩
theorem lenB3 {r : List Value} (h : r.length = 3) : ∃ a0 a1 a2, r = [a0, a1, a2] := by
  match r, h with
  | [a0, a1, a2], _ => exact ⟨a0, a1, a2, rfl⟩
theorem lenB4 {r : List Value} (h : r.length = 4) : ∃ a0 a1 a2 a3, r = [a0, a1, a2, a3] := by
  match r, h with
  | [a0, a1, a2, a3], _ => exact ⟨a0, a1, a2, a3, rfl⟩
theorem lenB7 {r : List Value} (h : r.length = 7) : ∃ a0 a1 a2 a3 a4 a5 a6, r = [a0, a1, a2, a3, a4, a5, a6] := by
  match r, h with
  | [a0, a1, a2, a3, a4, a5, a6], _ => exact ⟨a0, a1, a2, a3, a4, a5, a6, rfl⟩
theorem lenB8 {r : List Value} (h : r.length = 8) : ∃ a0 a1 a2 a3 a4 a5 a6 a7, r = [a0, a1, a2, a3, a4, a5, a6, a7] := by
  match r, h with
  | [a0, a1, a2, a3, a4, a5, a6, a7], _ => exact ⟨a0, a1, a2, a3, a4, a5, a6, a7, rfl⟩
theorem lenB11 {r : List Value} (h : r.length = 11) : ∃ a0 a1 a2 a3 a4 a5 a6 a7 a8 a9 a10, r = [a0, a1, a2, a3, a4, a5, a6, a7, a8, a9, a10] := by
  match r, h with
  | [a0, a1, a2, a3, a4, a5, a6, a7, a8, a9, a10], _ => exact ⟨a0, a1, a2, a3, a4, a5, a6, a7, a8, a9, a10, rfl⟩
theorem lenB15 {r : List Value} (h : r.length = 15) : ∃ a0 a1 a2 a3 a4 a5 a6 a7 a8 a9 a10 a11 a12 a13 a14, r = [a0, a1, a2, a3, a4, a5, a6, a7, a8, a9, a10, a11, a12, a13, a14] := by
  match r, h with
  | [a0, a1, a2, a3, a4, a5, a6, a7, a8, a9, a10, a11, a12, a13, a14], _ => exact ⟨a0, a1, a2, a3, a4, a5, a6, a7, a8, a9, a10, a11, a12, a13, a14, rfl⟩
theorem lenB_cons {α : Type} {r : List α} {n : Nat} (h : r.length = n + 1) : ∃ a t, r = a :: t ∧ t.length = n := by
  match r, h with
  | a :: t, h => exact ⟨a, t, rfl, by simpa using h⟩
theorem lenB57 {r : List Value} (h : r.length = 57) : ∃ a0 a1 a2 a3 a4 a5 a6 a7 a8 a9 a10 a11 a12 a13 a14 a15 a16 a17 a18 a19 a20 a21 a22 a23 a24 a25 a26 a27 a28 a29 a30 a31 a32 a33 a34 a35 a36 a37 a38 a39 a40 a41 a42 a43 a44 a45 a46 a47 a48 a49 a50 a51 a52 a53 a54 a55 a56, r = [a0, a1, a2, a3, a4, a5, a6, a7, a8, a9, a10, a11, a12, a13, a14, a15, a16, a17, a18, a19, a20, a21, a22, a23, a24, a25, a26, a27, a28, a29, a30, a31, a32, a33, a34, a35, a36, a37, a38, a39, a40, a41, a42, a43, a44, a45, a46, a47, a48, a49, a50, a51, a52, a53, a54, a55, a56] := by
  obtain ⟨a0, t0, rfl, h0⟩ := lenB_cons h
  obtain ⟨a1, t1, rfl, h1⟩ := lenB_cons h0
  obtain ⟨a2, t2, rfl, h2⟩ := lenB_cons h1
  obtain ⟨a3, t3, rfl, h3⟩ := lenB_cons h2
  obtain ⟨a4, t4, rfl, h4⟩ := lenB_cons h3
  obtain ⟨a5, t5, rfl, h5⟩ := lenB_cons h4
  obtain ⟨a6, t6, rfl, h6⟩ := lenB_cons h5
  obtain ⟨a7, t7, rfl, h7⟩ := lenB_cons h6
  obtain ⟨a8, t8, rfl, h8⟩ := lenB_cons h7
  obtain ⟨a9, t9, rfl, h9⟩ := lenB_cons h8
  obtain ⟨a10, t10, rfl, h10⟩ := lenB_cons h9
  obtain ⟨a11, t11, rfl, h11⟩ := lenB_cons h10
  obtain ⟨a12, t12, rfl, h12⟩ := lenB_cons h11
  obtain ⟨a13, t13, rfl, h13⟩ := lenB_cons h12
  obtain ⟨a14, t14, rfl, h14⟩ := lenB_cons h13
  obtain ⟨a15, t15, rfl, h15⟩ := lenB_cons h14
  obtain ⟨a16, t16, rfl, h16⟩ := lenB_cons h15
  obtain ⟨a17, t17, rfl, h17⟩ := lenB_cons h16
  obtain ⟨a18, t18, rfl, h18⟩ := lenB_cons h17
  obtain ⟨a19, t19, rfl, h19⟩ := lenB_cons h18
  obtain ⟨a20, t20, rfl, h20⟩ := lenB_cons h19
  obtain ⟨a21, t21, rfl, h21⟩ := lenB_cons h20
  obtain ⟨a22, t22, rfl, h22⟩ := lenB_cons h21
  obtain ⟨a23, t23, rfl, h23⟩ := lenB_cons h22
  obtain ⟨a24, t24, rfl, h24⟩ := lenB_cons h23
  obtain ⟨a25, t25, rfl, h25⟩ := lenB_cons h24
  obtain ⟨a26, t26, rfl, h26⟩ := lenB_cons h25
  obtain ⟨a27, t27, rfl, h27⟩ := lenB_cons h26
  obtain ⟨a28, t28, rfl, h28⟩ := lenB_cons h27
  obtain ⟨a29, t29, rfl, h29⟩ := lenB_cons h28
  obtain ⟨a30, t30, rfl, h30⟩ := lenB_cons h29
  obtain ⟨a31, t31, rfl, h31⟩ := lenB_cons h30
  obtain ⟨a32, t32, rfl, h32⟩ := lenB_cons h31
  obtain ⟨a33, t33, rfl, h33⟩ := lenB_cons h32
  obtain ⟨a34, t34, rfl, h34⟩ := lenB_cons h33
  obtain ⟨a35, t35, rfl, h35⟩ := lenB_cons h34
  obtain ⟨a36, t36, rfl, h36⟩ := lenB_cons h35
  obtain ⟨a37, t37, rfl, h37⟩ := lenB_cons h36
  obtain ⟨a38, t38, rfl, h38⟩ := lenB_cons h37
  obtain ⟨a39, t39, rfl, h39⟩ := lenB_cons h38
  obtain ⟨a40, t40, rfl, h40⟩ := lenB_cons h39
  obtain ⟨a41, t41, rfl, h41⟩ := lenB_cons h40
  obtain ⟨a42, t42, rfl, h42⟩ := lenB_cons h41
  obtain ⟨a43, t43, rfl, h43⟩ := lenB_cons h42
  obtain ⟨a44, t44, rfl, h44⟩ := lenB_cons h43
  obtain ⟨a45, t45, rfl, h45⟩ := lenB_cons h44
  obtain ⟨a46, t46, rfl, h46⟩ := lenB_cons h45
  obtain ⟨a47, t47, rfl, h47⟩ := lenB_cons h46
  obtain ⟨a48, t48, rfl, h48⟩ := lenB_cons h47
  obtain ⟨a49, t49, rfl, h49⟩ := lenB_cons h48
  obtain ⟨a50, t50, rfl, h50⟩ := lenB_cons h49
  obtain ⟨a51, t51, rfl, h51⟩ := lenB_cons h50
  obtain ⟨a52, t52, rfl, h52⟩ := lenB_cons h51
  obtain ⟨a53, t53, rfl, h53⟩ := lenB_cons h52
  obtain ⟨a54, t54, rfl, h54⟩ := lenB_cons h53
  obtain ⟨a55, t55, rfl, h55⟩ := lenB_cons h54
  obtain ⟨a56, t56, rfl, h56⟩ := lenB_cons h55
  obtain rfl := List.length_eq_zero_iff.1 h56
  exact ⟨a0, a1, a2, a3, a4, a5, a6, a7, a8, a9, a10, a11, a12, a13, a14, a15, a16, a17, a18, a19, a20, a21, a22, a23, a24, a25, a26, a27, a28, a29, a30, a31, a32, a33, a34, a35, a36, a37, a38, a39, a40, a41, a42, a43, a44, a45, a46, a47, a48, a49, a50, a51, a52, a53, a54, a55, a56, rfl⟩
theorem tag_of {r : List Value} (hr : r.length = 2) (h : DataW.trod enc Tryz.prog W 0 sp true fuel 25 r = some x) (hw : Rows.uptoBulk x.1 ≤ 1048576) : ∃ z : Tag, BigT z.text ∧ r = tgC z := by
  obtain ⟨v0, v1, rfl⟩ := lenB2 hr
  obtain ⟨xs, n, rfl, rfl, _, hl, hf⟩ := DataW.trod_struct Tryz.underlying25 h
  have l : xs.length = 2 := hl
  have c_0 : Tryz.prog.cellsOf 9 = 1 := by kernel_rfl
  have c_1 : Tryz.prog.cellsOf 4 = 1 := by kernel_rfl
  have f0 : DataW.trod enc Tryz.prog W 0 sp true n 9 (List.take (Tryz.prog.cellsOf 9) (List.drop 0 [v0, v1])) = xs[0]? := hf 0 _ rfl
  rw [c_0, List.getElem?_eq_getElem (by omega)] at f0
  replace f0 : DataW.trod enc Tryz.prog W 0 sp true n 9 [v0] = some _ := f0
  obtain ⟨t, i_t, e0⟩ := str_of f0 (agg_small hw 0 (by omega))
  have f1 : DataW.trod enc Tryz.prog W 0 sp true n 4 (List.take (Tryz.prog.cellsOf 4) (List.drop 1 [v0, v1])) = xs[1]? := hf 1 _ rfl
  rw [c_1, List.getElem?_eq_getElem (by omega)] at f1
  replace f1 : DataW.trod enc Tryz.prog W 0 sp true n 4 [v1] = some _ := f1
  obtain ⟨w, e1⟩ := bool_of f1
  subst e0
  subst e1
  exact ⟨⟨t, w⟩, i_t, rfl⟩
theorem spn_of {r : List Value} (hr : r.length = 2) (h : DataW.trod enc Tryz.prog W 0 sp true fuel 38 r = some x) (hw : Rows.uptoBulk x.1 ≤ 1048576) : ∃ z : Spn, SpnI z ∧ r = spC z := by
  obtain ⟨v0, v1, rfl⟩ := lenB2 hr
  obtain ⟨xs, n, rfl, rfl, _, hl, hf⟩ := DataW.trod_struct Tryz.underlying38 h
  have l : xs.length = 2 := hl
  have c_0 : Tryz.prog.cellsOf 2 = 1 := by kernel_rfl
  have f0 : DataW.trod enc Tryz.prog W 0 sp true n 2 (List.take (Tryz.prog.cellsOf 2) (List.drop 0 [v0, v1])) = xs[0]? := hf 0 _ rfl
  rw [c_0, List.getElem?_eq_getElem (by omega)] at f0
  replace f0 : DataW.trod enc Tryz.prog W 0 sp true n 2 [v0] = some _ := f0
  obtain ⟨a, i_a, e0⟩ := int_of Tryz.underlying2 f0
  have f1 : DataW.trod enc Tryz.prog W 0 sp true n 2 (List.take (Tryz.prog.cellsOf 2) (List.drop 1 [v0, v1])) = xs[1]? := hf 1 _ rfl
  rw [c_0, List.getElem?_eq_getElem (by omega)] at f1
  replace f1 : DataW.trod enc Tryz.prog W 0 sp true n 2 [v1] = some _ := f1
  obtain ⟨b, i_b, e1⟩ := int_of Tryz.underlying2 f1
  subst e0
  subst e1
  exact ⟨⟨a, b⟩, ⟨i_a, i_b⟩, rfl⟩
theorem spec_of {r : List Value} (hr : r.length = 2) (h : DataW.trod enc Tryz.prog W 0 sp true fuel 74 r = some x) (hw : Rows.uptoBulk x.1 ≤ 1048576) : ∃ z : Spn, SpnI z ∧ r = spC z := by
  obtain ⟨v0, v1, rfl⟩ := lenB2 hr
  obtain ⟨xs, n, rfl, rfl, _, hl, hf⟩ := DataW.trod_struct Tryz.underlying74 h
  have l : xs.length = 2 := hl
  have c_0 : Tryz.prog.cellsOf 2 = 1 := by kernel_rfl
  have f0 : DataW.trod enc Tryz.prog W 0 sp true n 2 (List.take (Tryz.prog.cellsOf 2) (List.drop 0 [v0, v1])) = xs[0]? := hf 0 _ rfl
  rw [c_0, List.getElem?_eq_getElem (by omega)] at f0
  replace f0 : DataW.trod enc Tryz.prog W 0 sp true n 2 [v0] = some _ := f0
  obtain ⟨a, i_a, e0⟩ := int_of Tryz.underlying2 f0
  have f1 : DataW.trod enc Tryz.prog W 0 sp true n 2 (List.take (Tryz.prog.cellsOf 2) (List.drop 1 [v0, v1])) = xs[1]? := hf 1 _ rfl
  rw [c_0, List.getElem?_eq_getElem (by omega)] at f1
  replace f1 : DataW.trod enc Tryz.prog W 0 sp true n 2 [v1] = some _ := f1
  obtain ⟨b, i_b, e1⟩ := int_of Tryz.underlying2 f1
  subst e0
  subst e1
  exact ⟨⟨a, b⟩, ⟨i_a, i_b⟩, rfl⟩
theorem fld_of {r : List Value} (hr : r.length = 2) (h : DataW.trod enc Tryz.prog W 0 sp true fuel 76 r = some x) (hw : Rows.uptoBulk x.1 ≤ 1048576) : ∃ z : Fld, (BigT z.name ∧ BigT z.value) ∧ r = fdC z := by
  obtain ⟨v0, v1, rfl⟩ := lenB2 hr
  obtain ⟨xs, n, rfl, rfl, _, hl, hf⟩ := DataW.trod_struct Tryz.underlying76 h
  have l : xs.length = 2 := hl
  have c_0 : Tryz.prog.cellsOf 9 = 1 := by kernel_rfl
  have f0 : DataW.trod enc Tryz.prog W 0 sp true n 9 (List.take (Tryz.prog.cellsOf 9) (List.drop 0 [v0, v1])) = xs[0]? := hf 0 _ rfl
  rw [c_0, List.getElem?_eq_getElem (by omega)] at f0
  replace f0 : DataW.trod enc Tryz.prog W 0 sp true n 9 [v0] = some _ := f0
  obtain ⟨a, i_a, e0⟩ := str_of f0 (agg_small hw 0 (by omega))
  have f1 : DataW.trod enc Tryz.prog W 0 sp true n 9 (List.take (Tryz.prog.cellsOf 9) (List.drop 1 [v0, v1])) = xs[1]? := hf 1 _ rfl
  rw [c_0, List.getElem?_eq_getElem (by omega)] at f1
  replace f1 : DataW.trod enc Tryz.prog W 0 sp true n 9 [v1] = some _ := f1
  obtain ⟨b, i_b, e1⟩ := str_of f1 (agg_small hw 1 (by omega))
  subst e0
  subst e1
  exact ⟨⟨a, b⟩, ⟨i_a, i_b⟩, rfl⟩
theorem prt_of {r : List Value} (hr : r.length = 3) (h : DataW.trod enc Tryz.prog W 0 sp true fuel 78 r = some x) (hw : Rows.uptoBulk x.1 ≤ 1048576) : ∃ z : Prt, (SpnI z.span ∧ BigT z.text) ∧ r = ptC z := by
  obtain ⟨v0, v1, v2, rfl⟩ := lenB3 hr
  obtain ⟨xs, n, rfl, rfl, _, hl, hf⟩ := DataW.trod_struct Tryz.underlying78 h
  have l : xs.length = 2 := hl
  have c_0 : Tryz.prog.cellsOf 9 = 1 := by kernel_rfl
  have c_1 : Tryz.prog.cellsOf 38 = 2 := by kernel_rfl
  have f0 : DataW.trod enc Tryz.prog W 0 sp true n 9 (List.take (Tryz.prog.cellsOf 9) (List.drop 0 [v0, v1, v2])) = xs[0]? := hf 0 _ rfl
  rw [c_0, List.getElem?_eq_getElem (by omega)] at f0
  replace f0 : DataW.trod enc Tryz.prog W 0 sp true n 9 [v0] = some _ := f0
  obtain ⟨a, i_a, e0⟩ := str_of f0 (agg_small hw 0 (by omega))
  have f1 : DataW.trod enc Tryz.prog W 0 sp true n 38 (List.take (Tryz.prog.cellsOf 38) (List.drop 1 [v0, v1, v2])) = xs[1]? := hf 1 _ rfl
  rw [c_1, List.getElem?_eq_getElem (by omega)] at f1
  replace f1 : DataW.trod enc Tryz.prog W 0 sp true n 38 [v1, v2] = some _ := f1
  obtain ⟨b, i_b, e1⟩ := spn_of rfl f1 (agg_small hw 1 (by omega))
  unfold spC at e1
  simp only [List.cons.injEq, and_true] at e1
  obtain ⟨e1_0, e1_1⟩ := e1
  subst e0
  subst e1_0 e1_1
  exact ⟨⟨a, b⟩, ⟨i_b, i_a⟩, rfl⟩
theorem texts_of (h : DataW.trod enc Tryz.prog W 0 sp true fuel 30 [v] = some x) (hw : Rows.uptoBulk x.1 ≤ 1048576) : ∃ R : Row Txt, (RowOK txC W R ∧ BigL (fun z => BigT z) R.l) ∧ v = R.val := by
  have hk : Tryz.prog.cellsOf 9 = 1 := by kernel_rfl
  obtain ⟨rows, A, cap, rfl, h1, h2, h3, h4, h5⟩ := rows_ofB (k := 1) Tryz.underlying30 hk (by omega) h hw
  obtain ⟨l, rfl, hp⟩ := map_ofB (p := fun z => BigT z) txC (vs := rows) (fun r hr => by
    obtain ⟨hl, n, d, hd, hb⟩ := h5 r hr
    obtain ⟨u, rfl⟩ : ∃ u, r = [u] := by
      match r, hl with
      | [u], _ => exact ⟨u, rfl⟩
    obtain ⟨t, ht, rfl⟩ := str_of hd hb
    exact ⟨t, ht, rfl⟩)
  rw [List.length_map] at h1 h4
  refine ⟨⟨A, cap, l⟩, ⟨⟨h1, by unfold maxLen at h2; exact h2, h3⟩, h4, hp⟩, ?_⟩
  rw [List.length_map]
  rfl
theorem tags_of (h : DataW.trod enc Tryz.prog W 0 sp true fuel 23 [v] = some x) (hw : Rows.uptoBulk x.1 ≤ 1048576) : ∃ R : Row Tag, (RowOK tgC W R ∧ BigL (fun z => BigT z.text) R.l) ∧ v = R.val := by
  have hk : Tryz.prog.cellsOf 25 = 2 := by kernel_rfl
  obtain ⟨rows, A, cap, rfl, h1, h2, h3, h4, h5⟩ := rows_ofB (k := 2) Tryz.underlying23 hk (by omega) h hw
  obtain ⟨l, rfl, hp⟩ := map_ofB (p := fun z => BigT z.text) tgC (vs := rows) (fun r hr => by
    obtain ⟨hl, n, d, hd, hb⟩ := h5 r hr
    exact tag_of hl hd hb)
  rw [List.length_map] at h1 h4
  refine ⟨⟨A, cap, l⟩, ⟨⟨h1, by unfold maxLen at h2; exact h2, h3⟩, h4, hp⟩, ?_⟩
  rw [List.length_map]
  rfl
theorem specs_of (h : DataW.trod enc Tryz.prog W 0 sp true fuel 22 [v] = some x) (hw : Rows.uptoBulk x.1 ≤ 1048576) : ∃ R : Row Spn, (RowOK spC W R ∧ BigL (fun z => SpnI z) R.l) ∧ v = R.val := by
  have hk : Tryz.prog.cellsOf 74 = 2 := by kernel_rfl
  obtain ⟨rows, A, cap, rfl, h1, h2, h3, h4, h5⟩ := rows_ofB (k := 2) Tryz.underlying22 hk (by omega) h hw
  obtain ⟨l, rfl, hp⟩ := map_ofB (p := fun z => SpnI z) spC (vs := rows) (fun r hr => by
    obtain ⟨hl, n, d, hd, hb⟩ := h5 r hr
    exact spec_of hl hd hb)
  rw [List.length_map] at h1 h4
  refine ⟨⟨A, cap, l⟩, ⟨⟨h1, by unfold maxLen at h2; exact h2, h3⟩, h4, hp⟩, ?_⟩
  rw [List.length_map]
  rfl
theorem fields_of (h : DataW.trod enc Tryz.prog W 0 sp true fuel 33 [v] = some x) (hw : Rows.uptoBulk x.1 ≤ 1048576) : ∃ R : Row Fld, (RowOK fdC W R ∧ BigL (fun z => BigT z.name ∧ BigT z.value) R.l) ∧ v = R.val := by
  have hk : Tryz.prog.cellsOf 76 = 2 := by kernel_rfl
  obtain ⟨rows, A, cap, rfl, h1, h2, h3, h4, h5⟩ := rows_ofB (k := 2) Tryz.underlying33 hk (by omega) h hw
  obtain ⟨l, rfl, hp⟩ := map_ofB (p := fun z => BigT z.name ∧ BigT z.value) fdC (vs := rows) (fun r hr => by
    obtain ⟨hl, n, d, hd, hb⟩ := h5 r hr
    exact fld_of hl hd hb)
  rw [List.length_map] at h1 h4
  refine ⟨⟨A, cap, l⟩, ⟨⟨h1, by unfold maxLen at h2; exact h2, h3⟩, h4, hp⟩, ?_⟩
  rw [List.length_map]
  rfl
theorem parts_of (h : DataW.trod enc Tryz.prog W 0 sp true fuel 34 [v] = some x) (hw : Rows.uptoBulk x.1 ≤ 1048576) : ∃ R : Row Prt, (RowOK ptC W R ∧ BigL (fun z => SpnI z.span ∧ BigT z.text) R.l) ∧ v = R.val := by
  have hk : Tryz.prog.cellsOf 78 = 3 := by kernel_rfl
  obtain ⟨rows, A, cap, rfl, h1, h2, h3, h4, h5⟩ := rows_ofB (k := 3) Tryz.underlying34 hk (by omega) h hw
  obtain ⟨l, rfl, hp⟩ := map_ofB (p := fun z => SpnI z.span ∧ BigT z.text) ptC (vs := rows) (fun r hr => by
    obtain ⟨hl, n, d, hd, hb⟩ := h5 r hr
    exact prt_of hl hd hb)
  rw [List.length_map] at h1 h4
  refine ⟨⟨A, cap, l⟩, ⟨⟨h1, by unfold maxLen at h2; exact h2, h3⟩, h4, hp⟩, ?_⟩
  rw [List.length_map]
  rfl
structure CndR where
  mtch : Row Tag
  non : Row Tag
  anyM : Bool
  anyN : Bool
  since : Int
  unless_ : Int
  range : Tag
def CndR.cells (c : CndR) : List Value := [c.mtch.val, c.non.val, .bool c.anyM, .bool c.anyN, .int .i64 c.since, .int .i64 c.unless_, .string (bstr c.range.text), .bool c.range.weak]
structure CndOK (W : World) (c : CndR) : Prop where
  mtch : RowOK tgC W c.mtch ∧ BigL (fun z => BigT z.text) c.mtch.l
  non : RowOK tgC W c.non ∧ BigL (fun z => BigT z.text) c.non.l
  since : I64 c.since
  unless_ : I64 c.unless_
  range : BigT c.range.text
structure ReqB (W : World) (q : ReqR) : Prop where
  ok : ReqOK W q
  object : BigT q.object
  specs : q.specs.l.length ≤ 1048576
  mtch : BigL (fun t => BigT t.text) q.mtch.l
  non : BigL (fun t => BigT t.text) q.non.l
  range : BigT q.range.text
structure MetB (W : World) (m : MetR) : Prop where
  ok : MetOK W m
  tag : BigT m.tag.text
  keys : BigL BigT m.keys.l
  tenant : BigT m.tenant
structure AnsB (W : World) (a : AnsR) : Prop where
  ok : AnsOK W a
  fields : BigL (fun f => BigT f.name ∧ BigT f.value) a.fields.l
  parts : BigL (fun p => BigT p.text) a.parts.l
structure FetB (f : Fet) : Prop where
  i : FetI f
  object : BigT f.object
  mtch : BigT f.mtch.text
  non : BigT f.non.text
structure RepB (W : World) (r : RepR) : Prop where
  ok : RepOK W r
  met : MetB W r.met
theorem cnd_of {r : List Value} (hr : r.length = 8) (h : DataW.trod enc Tryz.prog W 0 sp true fuel 27 r = some x) (hw : Rows.uptoBulk x.1 ≤ 1048576) : ∃ z : CndR, CndOK W z ∧ r = z.cells := by
  obtain ⟨v0, v1, v2, v3, v4, v5, v6, v7, rfl⟩ := lenB8 hr
  obtain ⟨xs, n, rfl, rfl, _, hl, hf⟩ := DataW.trod_struct Tryz.underlying27 h
  have l : xs.length = 7 := hl
  have c_0 : Tryz.prog.cellsOf 23 = 1 := by kernel_rfl
  have c_1 : Tryz.prog.cellsOf 4 = 1 := by kernel_rfl
  have c_2 : Tryz.prog.cellsOf 2 = 1 := by kernel_rfl
  have c_3 : Tryz.prog.cellsOf 25 = 2 := by kernel_rfl
  have f0 : DataW.trod enc Tryz.prog W 0 sp true n 23 (List.take (Tryz.prog.cellsOf 23) (List.drop 0 [v0, v1, v2, v3, v4, v5, v6, v7])) = xs[0]? := hf 0 _ rfl
  rw [c_0, List.getElem?_eq_getElem (by omega)] at f0
  replace f0 : DataW.trod enc Tryz.prog W 0 sp true n 23 [v0] = some _ := f0
  obtain ⟨zm, i_zm, e0⟩ := tags_of f0 (agg_small hw 0 (by omega))
  have f1 : DataW.trod enc Tryz.prog W 0 sp true n 23 (List.take (Tryz.prog.cellsOf 23) (List.drop 1 [v0, v1, v2, v3, v4, v5, v6, v7])) = xs[1]? := hf 1 _ rfl
  rw [c_0, List.getElem?_eq_getElem (by omega)] at f1
  replace f1 : DataW.trod enc Tryz.prog W 0 sp true n 23 [v1] = some _ := f1
  obtain ⟨zn, i_zn, e1⟩ := tags_of f1 (agg_small hw 1 (by omega))
  have f2 : DataW.trod enc Tryz.prog W 0 sp true n 4 (List.take (Tryz.prog.cellsOf 4) (List.drop 2 [v0, v1, v2, v3, v4, v5, v6, v7])) = xs[2]? := hf 2 _ rfl
  rw [c_1, List.getElem?_eq_getElem (by omega)] at f2
  replace f2 : DataW.trod enc Tryz.prog W 0 sp true n 4 [v2] = some _ := f2
  obtain ⟨za, e2⟩ := bool_of f2
  have f3 : DataW.trod enc Tryz.prog W 0 sp true n 4 (List.take (Tryz.prog.cellsOf 4) (List.drop 3 [v0, v1, v2, v3, v4, v5, v6, v7])) = xs[3]? := hf 3 _ rfl
  rw [c_1, List.getElem?_eq_getElem (by omega)] at f3
  replace f3 : DataW.trod enc Tryz.prog W 0 sp true n 4 [v3] = some _ := f3
  obtain ⟨zb, e3⟩ := bool_of f3
  have f4 : DataW.trod enc Tryz.prog W 0 sp true n 2 (List.take (Tryz.prog.cellsOf 2) (List.drop 4 [v0, v1, v2, v3, v4, v5, v6, v7])) = xs[4]? := hf 4 _ rfl
  rw [c_2, List.getElem?_eq_getElem (by omega)] at f4
  replace f4 : DataW.trod enc Tryz.prog W 0 sp true n 2 [v4] = some _ := f4
  obtain ⟨zs, i_zs, e4⟩ := int_of Tryz.underlying2 f4
  have f5 : DataW.trod enc Tryz.prog W 0 sp true n 2 (List.take (Tryz.prog.cellsOf 2) (List.drop 5 [v0, v1, v2, v3, v4, v5, v6, v7])) = xs[5]? := hf 5 _ rfl
  rw [c_2, List.getElem?_eq_getElem (by omega)] at f5
  replace f5 : DataW.trod enc Tryz.prog W 0 sp true n 2 [v5] = some _ := f5
  obtain ⟨zu, i_zu, e5⟩ := int_of Tryz.underlying2 f5
  have f6 : DataW.trod enc Tryz.prog W 0 sp true n 25 (List.take (Tryz.prog.cellsOf 25) (List.drop 6 [v0, v1, v2, v3, v4, v5, v6, v7])) = xs[6]? := hf 6 _ rfl
  rw [c_3, List.getElem?_eq_getElem (by omega)] at f6
  replace f6 : DataW.trod enc Tryz.prog W 0 sp true n 25 [v6, v7] = some _ := f6
  obtain ⟨zg, i_zg, e6⟩ := tag_of rfl f6 (agg_small hw 6 (by omega))
  unfold tgC at e6
  simp only [List.cons.injEq, and_true] at e6
  obtain ⟨e6_0, e6_1⟩ := e6
  subst e0
  subst e1
  subst e2
  subst e3
  subst e4
  subst e5
  subst e6_0 e6_1
  exact ⟨⟨zm, zn, za, zb, zs, zu, zg⟩, ⟨i_zm, i_zn, i_zs, i_zu, i_zg⟩, rfl⟩
theorem req_of {r : List Value} (hr : r.length = 11) (h : DataW.trod enc Tryz.prog W 0 sp true fuel 29 r = some x) (hw : Rows.uptoBulk x.1 ≤ 1048576) : ∃ z : ReqR, ReqB W z ∧ r = z.cells := by
  obtain ⟨v0, v1, v2, v3, v4, v5, v6, v7, v8, v9, v10, rfl⟩ := lenB11 hr
  obtain ⟨xs, n, rfl, rfl, _, hl, hf⟩ := DataW.trod_struct Tryz.underlying29 h
  have l : xs.length = 4 := hl
  have c_0 : Tryz.prog.cellsOf 4 = 1 := by kernel_rfl
  have c_1 : Tryz.prog.cellsOf 9 = 1 := by kernel_rfl
  have c_2 : Tryz.prog.cellsOf 22 = 1 := by kernel_rfl
  have c_3 : Tryz.prog.cellsOf 27 = 8 := by kernel_rfl
  have f0 : DataW.trod enc Tryz.prog W 0 sp true n 4 (List.take (Tryz.prog.cellsOf 4) (List.drop 0 [v0, v1, v2, v3, v4, v5, v6, v7, v8, v9, v10])) = xs[0]? := hf 0 _ rfl
  rw [c_0, List.getElem?_eq_getElem (by omega)] at f0
  replace f0 : DataW.trod enc Tryz.prog W 0 sp true n 4 [v0] = some _ := f0
  obtain ⟨zh, e0⟩ := bool_of f0
  have f1 : DataW.trod enc Tryz.prog W 0 sp true n 9 (List.take (Tryz.prog.cellsOf 9) (List.drop 1 [v0, v1, v2, v3, v4, v5, v6, v7, v8, v9, v10])) = xs[1]? := hf 1 _ rfl
  rw [c_1, List.getElem?_eq_getElem (by omega)] at f1
  replace f1 : DataW.trod enc Tryz.prog W 0 sp true n 9 [v1] = some _ := f1
  obtain ⟨zo, i_zo, e1⟩ := str_of f1 (agg_small hw 1 (by omega))
  have f2 : DataW.trod enc Tryz.prog W 0 sp true n 22 (List.take (Tryz.prog.cellsOf 22) (List.drop 2 [v0, v1, v2, v3, v4, v5, v6, v7, v8, v9, v10])) = xs[2]? := hf 2 _ rfl
  rw [c_2, List.getElem?_eq_getElem (by omega)] at f2
  replace f2 : DataW.trod enc Tryz.prog W 0 sp true n 22 [v2] = some _ := f2
  obtain ⟨zs, i_zs, e2⟩ := specs_of f2 (agg_small hw 2 (by omega))
  have f3 : DataW.trod enc Tryz.prog W 0 sp true n 27 (List.take (Tryz.prog.cellsOf 27) (List.drop 3 [v0, v1, v2, v3, v4, v5, v6, v7, v8, v9, v10])) = xs[3]? := hf 3 _ rfl
  rw [c_3, List.getElem?_eq_getElem (by omega)] at f3
  replace f3 : DataW.trod enc Tryz.prog W 0 sp true n 27 [v3, v4, v5, v6, v7, v8, v9, v10] = some _ := f3
  obtain ⟨zc, i_zc, e3⟩ := cnd_of rfl f3 (agg_small hw 3 (by omega))
  unfold CndR.cells at e3
  simp only [List.cons.injEq, and_true] at e3
  obtain ⟨e3_0, e3_1, e3_2, e3_3, e3_4, e3_5, e3_6, e3_7⟩ := e3
  subst e0
  subst e1
  subst e2
  subst e3_0 e3_1 e3_2 e3_3 e3_4 e3_5 e3_6 e3_7
  exact ⟨⟨zh, zo, zs, zc.mtch, zc.non, zc.anyM, zc.anyN, zc.since, zc.unless_, zc.range⟩, ⟨⟨i_zs.1, i_zc.mtch.1, i_zc.non.1, ⟨⟨Nat.le_trans i_zs.2.1 (by decide), i_zs.2.2⟩, Nat.le_trans i_zc.mtch.2.1 (by decide), Nat.le_trans i_zc.non.2.1 (by decide), i_zc.since, i_zc.unless_⟩⟩, i_zo, i_zs.2.1, i_zc.mtch.2, i_zc.non.2, i_zc.range⟩, rfl⟩
theorem met_of {r : List Value} (hr : r.length = 11) (h : DataW.trod enc Tryz.prog W 0 sp true fuel 32 r = some x) (hw : Rows.uptoBulk x.1 ≤ 1048576) : ∃ z : MetR, MetB W z ∧ r = z.cells := by
  obtain ⟨v0, v1, v2, v3, v4, v5, v6, v7, v8, v9, v10, rfl⟩ := lenB11 hr
  obtain ⟨xs, n, rfl, rfl, _, hl, hf⟩ := DataW.trod_struct Tryz.underlying32 h
  have l : xs.length = 10 := hl
  have c_0 : Tryz.prog.cellsOf 25 = 2 := by kernel_rfl
  have c_1 : Tryz.prog.cellsOf 2 = 1 := by kernel_rfl
  have c_2 : Tryz.prog.cellsOf 30 = 1 := by kernel_rfl
  have c_3 : Tryz.prog.cellsOf 9 = 1 := by kernel_rfl
  have c_4 : Tryz.prog.cellsOf 4 = 1 := by kernel_rfl
  have f0 : DataW.trod enc Tryz.prog W 0 sp true n 25 (List.take (Tryz.prog.cellsOf 25) (List.drop 0 [v0, v1, v2, v3, v4, v5, v6, v7, v8, v9, v10])) = xs[0]? := hf 0 _ rfl
  rw [c_0, List.getElem?_eq_getElem (by omega)] at f0
  replace f0 : DataW.trod enc Tryz.prog W 0 sp true n 25 [v0, v1] = some _ := f0
  obtain ⟨zt, i_zt, e0⟩ := tag_of rfl f0 (agg_small hw 0 (by omega))
  unfold tgC at e0
  simp only [List.cons.injEq, and_true] at e0
  obtain ⟨e0_0, e0_1⟩ := e0
  have f1 : DataW.trod enc Tryz.prog W 0 sp true n 2 (List.take (Tryz.prog.cellsOf 2) (List.drop 2 [v0, v1, v2, v3, v4, v5, v6, v7, v8, v9, v10])) = xs[1]? := hf 1 _ rfl
  rw [c_1, List.getElem?_eq_getElem (by omega)] at f1
  replace f1 : DataW.trod enc Tryz.prog W 0 sp true n 2 [v2] = some _ := f1
  obtain ⟨z0, i_z0, e1⟩ := int_of Tryz.underlying2 f1
  have f2 : DataW.trod enc Tryz.prog W 0 sp true n 2 (List.take (Tryz.prog.cellsOf 2) (List.drop 3 [v0, v1, v2, v3, v4, v5, v6, v7, v8, v9, v10])) = xs[2]? := hf 2 _ rfl
  rw [c_1, List.getElem?_eq_getElem (by omega)] at f2
  replace f2 : DataW.trod enc Tryz.prog W 0 sp true n 2 [v3] = some _ := f2
  obtain ⟨z1, i_z1, e2⟩ := int_of Tryz.underlying2 f2
  have f3 : DataW.trod enc Tryz.prog W 0 sp true n 2 (List.take (Tryz.prog.cellsOf 2) (List.drop 4 [v0, v1, v2, v3, v4, v5, v6, v7, v8, v9, v10])) = xs[3]? := hf 3 _ rfl
  rw [c_1, List.getElem?_eq_getElem (by omega)] at f3
  replace f3 : DataW.trod enc Tryz.prog W 0 sp true n 2 [v4] = some _ := f3
  obtain ⟨z2, i_z2, e3⟩ := int_of Tryz.underlying2 f3
  have f4 : DataW.trod enc Tryz.prog W 0 sp true n 2 (List.take (Tryz.prog.cellsOf 2) (List.drop 5 [v0, v1, v2, v3, v4, v5, v6, v7, v8, v9, v10])) = xs[4]? := hf 4 _ rfl
  rw [c_1, List.getElem?_eq_getElem (by omega)] at f4
  replace f4 : DataW.trod enc Tryz.prog W 0 sp true n 2 [v5] = some _ := f4
  obtain ⟨z3, i_z3, e4⟩ := int_of Tryz.underlying2 f4
  have f5 : DataW.trod enc Tryz.prog W 0 sp true n 2 (List.take (Tryz.prog.cellsOf 2) (List.drop 6 [v0, v1, v2, v3, v4, v5, v6, v7, v8, v9, v10])) = xs[5]? := hf 5 _ rfl
  rw [c_1, List.getElem?_eq_getElem (by omega)] at f5
  replace f5 : DataW.trod enc Tryz.prog W 0 sp true n 2 [v6] = some _ := f5
  obtain ⟨z4, i_z4, e5⟩ := int_of Tryz.underlying2 f5
  have f6 : DataW.trod enc Tryz.prog W 0 sp true n 2 (List.take (Tryz.prog.cellsOf 2) (List.drop 7 [v0, v1, v2, v3, v4, v5, v6, v7, v8, v9, v10])) = xs[6]? := hf 6 _ rfl
  rw [c_1, List.getElem?_eq_getElem (by omega)] at f6
  replace f6 : DataW.trod enc Tryz.prog W 0 sp true n 2 [v7] = some _ := f6
  obtain ⟨z5, i_z5, e6⟩ := int_of Tryz.underlying2 f6
  have f7 : DataW.trod enc Tryz.prog W 0 sp true n 30 (List.take (Tryz.prog.cellsOf 30) (List.drop 8 [v0, v1, v2, v3, v4, v5, v6, v7, v8, v9, v10])) = xs[7]? := hf 7 _ rfl
  rw [c_2, List.getElem?_eq_getElem (by omega)] at f7
  replace f7 : DataW.trod enc Tryz.prog W 0 sp true n 30 [v8] = some _ := f7
  obtain ⟨zk, i_zk, e7⟩ := texts_of f7 (agg_small hw 7 (by omega))
  have f8 : DataW.trod enc Tryz.prog W 0 sp true n 9 (List.take (Tryz.prog.cellsOf 9) (List.drop 9 [v0, v1, v2, v3, v4, v5, v6, v7, v8, v9, v10])) = xs[8]? := hf 8 _ rfl
  rw [c_3, List.getElem?_eq_getElem (by omega)] at f8
  replace f8 : DataW.trod enc Tryz.prog W 0 sp true n 9 [v9] = some _ := f8
  obtain ⟨zn, i_zn, e8⟩ := str_of f8 (agg_small hw 8 (by omega))
  have f9 : DataW.trod enc Tryz.prog W 0 sp true n 4 (List.take (Tryz.prog.cellsOf 4) (List.drop 10 [v0, v1, v2, v3, v4, v5, v6, v7, v8, v9, v10])) = xs[9]? := hf 9 _ rfl
  rw [c_4, List.getElem?_eq_getElem (by omega)] at f9
  replace f9 : DataW.trod enc Tryz.prog W 0 sp true n 4 [v10] = some _ := f9
  obtain ⟨zp, e9⟩ := bool_of f9
  subst e0_0 e0_1
  subst e1
  subst e2
  subst e3
  subst e4
  subst e5
  subst e6
  subst e7
  subst e8
  subst e9
  exact ⟨⟨zt, z0, z1, z2, z3, z4, z5, zk, zn, zp⟩, ⟨⟨i_zk.1, ⟨i_z0, i_z1, i_z2, i_z3, i_z4, i_z5, Nat.le_trans i_zk.2.1 (by decide)⟩⟩, i_zt, i_zk.2, i_zn⟩, rfl⟩
theorem ans_of {r : List Value} (hr : r.length = 4) (h : DataW.trod enc Tryz.prog W 0 sp true fuel 36 r = some x) (hw : Rows.uptoBulk x.1 ≤ 1048576) : ∃ z : AnsR, AnsB W z ∧ r = z.cells := by
  obtain ⟨v0, v1, v2, v3, rfl⟩ := lenB4 hr
  obtain ⟨xs, n, rfl, rfl, _, hl, hf⟩ := DataW.trod_struct Tryz.underlying36 h
  have l : xs.length = 4 := hl
  have c_0 : Tryz.prog.cellsOf 3 = 1 := by kernel_rfl
  have c_1 : Tryz.prog.cellsOf 33 = 1 := by kernel_rfl
  have c_2 : Tryz.prog.cellsOf 34 = 1 := by kernel_rfl
  have c_3 : Tryz.prog.cellsOf 2 = 1 := by kernel_rfl
  have f0 : DataW.trod enc Tryz.prog W 0 sp true n 3 (List.take (Tryz.prog.cellsOf 3) (List.drop 0 [v0, v1, v2, v3])) = xs[0]? := hf 0 _ rfl
  rw [c_0, List.getElem?_eq_getElem (by omega)] at f0
  replace f0 : DataW.trod enc Tryz.prog W 0 sp true n 3 [v0] = some _ := f0
  obtain ⟨z0, i_z0, e0⟩ := int_of Tryz.underlying3 f0
  have f1 : DataW.trod enc Tryz.prog W 0 sp true n 33 (List.take (Tryz.prog.cellsOf 33) (List.drop 1 [v0, v1, v2, v3])) = xs[1]? := hf 1 _ rfl
  rw [c_1, List.getElem?_eq_getElem (by omega)] at f1
  replace f1 : DataW.trod enc Tryz.prog W 0 sp true n 33 [v1] = some _ := f1
  obtain ⟨zf, i_zf, e1⟩ := fields_of f1 (agg_small hw 1 (by omega))
  have f2 : DataW.trod enc Tryz.prog W 0 sp true n 34 (List.take (Tryz.prog.cellsOf 34) (List.drop 2 [v0, v1, v2, v3])) = xs[2]? := hf 2 _ rfl
  rw [c_2, List.getElem?_eq_getElem (by omega)] at f2
  replace f2 : DataW.trod enc Tryz.prog W 0 sp true n 34 [v2] = some _ := f2
  obtain ⟨zp, i_zp, e2⟩ := parts_of f2 (agg_small hw 2 (by omega))
  have f3 : DataW.trod enc Tryz.prog W 0 sp true n 2 (List.take (Tryz.prog.cellsOf 2) (List.drop 3 [v0, v1, v2, v3])) = xs[3]? := hf 3 _ rfl
  rw [c_3, List.getElem?_eq_getElem (by omega)] at f3
  replace f3 : DataW.trod enc Tryz.prog W 0 sp true n 2 [v3] = some _ := f3
  obtain ⟨z1, i_z1, e3⟩ := int_of Tryz.underlying2 f3
  subst e0
  subst e1
  subst e2
  subst e3
  exact ⟨⟨z0, zf, zp, z1⟩, ⟨⟨i_zf.1, i_zp.1, ⟨i_z0, Nat.le_trans i_zf.2.1 (by decide), ⟨Nat.le_trans i_zp.2.1 (by decide), fun p hp => (i_zp.2.2 p hp).1⟩, i_z1⟩⟩, i_zf.2, ⟨i_zp.2.1, fun p hp => (i_zp.2.2 p hp).2⟩⟩, rfl⟩
theorem fet_of {r : List Value} (hr : r.length = 7) (h : DataW.trod enc Tryz.prog W 0 sp true fuel 40 r = some x) (hw : Rows.uptoBulk x.1 ≤ 1048576) : ∃ z : Fet, FetB z ∧ r = ftC z := by
  obtain ⟨v0, v1, v2, v3, v4, v5, v6, rfl⟩ := lenB7 hr
  obtain ⟨xs, n, rfl, rfl, _, hl, hf⟩ := DataW.trod_struct Tryz.underlying40 h
  have l : xs.length = 4 := hl
  have c_0 : Tryz.prog.cellsOf 9 = 1 := by kernel_rfl
  have c_1 : Tryz.prog.cellsOf 38 = 2 := by kernel_rfl
  have c_2 : Tryz.prog.cellsOf 25 = 2 := by kernel_rfl
  have f0 : DataW.trod enc Tryz.prog W 0 sp true n 9 (List.take (Tryz.prog.cellsOf 9) (List.drop 0 [v0, v1, v2, v3, v4, v5, v6])) = xs[0]? := hf 0 _ rfl
  rw [c_0, List.getElem?_eq_getElem (by omega)] at f0
  replace f0 : DataW.trod enc Tryz.prog W 0 sp true n 9 [v0] = some _ := f0
  obtain ⟨zo, i_zo, e0⟩ := str_of f0 (agg_small hw 0 (by omega))
  have f1 : DataW.trod enc Tryz.prog W 0 sp true n 38 (List.take (Tryz.prog.cellsOf 38) (List.drop 1 [v0, v1, v2, v3, v4, v5, v6])) = xs[1]? := hf 1 _ rfl
  rw [c_1, List.getElem?_eq_getElem (by omega)] at f1
  replace f1 : DataW.trod enc Tryz.prog W 0 sp true n 38 [v1, v2] = some _ := f1
  obtain ⟨zs, i_zs, e1⟩ := spn_of rfl f1 (agg_small hw 1 (by omega))
  unfold spC at e1
  simp only [List.cons.injEq, and_true] at e1
  obtain ⟨e1_0, e1_1⟩ := e1
  have f2 : DataW.trod enc Tryz.prog W 0 sp true n 25 (List.take (Tryz.prog.cellsOf 25) (List.drop 3 [v0, v1, v2, v3, v4, v5, v6])) = xs[2]? := hf 2 _ rfl
  rw [c_2, List.getElem?_eq_getElem (by omega)] at f2
  replace f2 : DataW.trod enc Tryz.prog W 0 sp true n 25 [v3, v4] = some _ := f2
  obtain ⟨zm, i_zm, e2⟩ := tag_of rfl f2 (agg_small hw 2 (by omega))
  unfold tgC at e2
  simp only [List.cons.injEq, and_true] at e2
  obtain ⟨e2_0, e2_1⟩ := e2
  have f3 : DataW.trod enc Tryz.prog W 0 sp true n 25 (List.take (Tryz.prog.cellsOf 25) (List.drop 5 [v0, v1, v2, v3, v4, v5, v6])) = xs[3]? := hf 3 _ rfl
  rw [c_2, List.getElem?_eq_getElem (by omega)] at f3
  replace f3 : DataW.trod enc Tryz.prog W 0 sp true n 25 [v5, v6] = some _ := f3
  obtain ⟨zn, i_zn, e3⟩ := tag_of rfl f3 (agg_small hw 3 (by omega))
  unfold tgC at e3
  simp only [List.cons.injEq, and_true] at e3
  obtain ⟨e3_0, e3_1⟩ := e3
  subst e0
  subst e1_0 e1_1
  subst e2_0 e2_1
  subst e3_0 e3_1
  exact ⟨⟨zo, zs, zm, zn⟩, ⟨i_zs, i_zo, i_zm, i_zn⟩, rfl⟩
theorem rep_of {r : List Value} (hr : r.length = 15) (h : DataW.trod enc Tryz.prog W 0 sp true fuel 42 r = some x) (hw : Rows.uptoBulk x.1 ≤ 1048576) : ∃ z : RepR, RepB W z ∧ r = z.cells := by
  obtain ⟨v0, v1, v2, v3, v4, v5, v6, v7, v8, v9, v10, v11, v12, v13, v14, rfl⟩ := lenB15 hr
  obtain ⟨xs, n, rfl, rfl, _, hl, hf⟩ := DataW.trod_struct Tryz.underlying42 h
  have l : xs.length = 4 := hl
  have c_0 : Tryz.prog.cellsOf 3 = 1 := by kernel_rfl
  have c_1 : Tryz.prog.cellsOf 32 = 11 := by kernel_rfl
  have c_2 : Tryz.prog.cellsOf 38 = 2 := by kernel_rfl
  have c_3 : Tryz.prog.cellsOf 2 = 1 := by kernel_rfl
  have f0 : DataW.trod enc Tryz.prog W 0 sp true n 3 (List.take (Tryz.prog.cellsOf 3) (List.drop 0 [v0, v1, v2, v3, v4, v5, v6, v7, v8, v9, v10, v11, v12, v13, v14])) = xs[0]? := hf 0 _ rfl
  rw [c_0, List.getElem?_eq_getElem (by omega)] at f0
  replace f0 : DataW.trod enc Tryz.prog W 0 sp true n 3 [v0] = some _ := f0
  obtain ⟨z0, i_z0, e0⟩ := int_of Tryz.underlying3 f0
  have f1 : DataW.trod enc Tryz.prog W 0 sp true n 32 (List.take (Tryz.prog.cellsOf 32) (List.drop 1 [v0, v1, v2, v3, v4, v5, v6, v7, v8, v9, v10, v11, v12, v13, v14])) = xs[1]? := hf 1 _ rfl
  rw [c_1, List.getElem?_eq_getElem (by omega)] at f1
  replace f1 : DataW.trod enc Tryz.prog W 0 sp true n 32 [v1, v2, v3, v4, v5, v6, v7, v8, v9, v10, v11] = some _ := f1
  obtain ⟨zm, i_zm, e1⟩ := met_of rfl f1 (agg_small hw 1 (by omega))
  unfold MetR.cells at e1
  simp only [List.cons.injEq, and_true] at e1
  obtain ⟨e1_0, e1_1, e1_2, e1_3, e1_4, e1_5, e1_6, e1_7, e1_8, e1_9, e1_10⟩ := e1
  have f2 : DataW.trod enc Tryz.prog W 0 sp true n 38 (List.take (Tryz.prog.cellsOf 38) (List.drop 12 [v0, v1, v2, v3, v4, v5, v6, v7, v8, v9, v10, v11, v12, v13, v14])) = xs[2]? := hf 2 _ rfl
  rw [c_2, List.getElem?_eq_getElem (by omega)] at f2
  replace f2 : DataW.trod enc Tryz.prog W 0 sp true n 38 [v12, v13] = some _ := f2
  obtain ⟨zs, i_zs, e2⟩ := spn_of rfl f2 (agg_small hw 2 (by omega))
  unfold spC at e2
  simp only [List.cons.injEq, and_true] at e2
  obtain ⟨e2_0, e2_1⟩ := e2
  have f3 : DataW.trod enc Tryz.prog W 0 sp true n 2 (List.take (Tryz.prog.cellsOf 2) (List.drop 14 [v0, v1, v2, v3, v4, v5, v6, v7, v8, v9, v10, v11, v12, v13, v14])) = xs[3]? := hf 3 _ rfl
  rw [c_3, List.getElem?_eq_getElem (by omega)] at f3
  replace f3 : DataW.trod enc Tryz.prog W 0 sp true n 2 [v14] = some _ := f3
  obtain ⟨z1, i_z1, e3⟩ := int_of Tryz.underlying2 f3
  subst e0
  subst e1_0 e1_1 e1_2 e1_3 e1_4 e1_5 e1_6 e1_7 e1_8 e1_9 e1_10
  subst e2_0 e2_1
  subst e3
  exact ⟨⟨z0, zm, zs, z1⟩, ⟨⟨i_zm.ok, ⟨i_z0, i_zm.ok.i, i_zs, i_z1⟩⟩, i_zm⟩, rfl⟩
set_option maxRecDepth 100000 in
set_option maxHeartbeats 1600000 in
theorem evt_of {r : List Value} (hr : r.length = 57) (h : DataW.trod enc Tryz.prog W 0 sp true fuel 45 r = some x) (hw : Rows.uptoBulk x.1 ≤ 1048576) : ∃ z : EvtR, (EvtOK W z ∧ BigE z.abs) ∧ r = z.cells := by
  obtain ⟨v0, v1, v2, v3, v4, v5, v6, v7, v8, v9, v10, v11, v12, v13, v14, v15, v16, v17, v18, v19, v20, v21, v22, v23, v24, v25, v26, v27, v28, v29, v30, v31, v32, v33, v34, v35, v36, v37, v38, v39, v40, v41, v42, v43, v44, v45, v46, v47, v48, v49, v50, v51, v52, v53, v54, v55, v56, rfl⟩ := lenB57 hr
  obtain ⟨xs, n, rfl, rfl, _, hl, hf⟩ := DataW.trod_struct Tryz.underlying45 h
  have l : xs.length = 14 := hl
  have c_0 : Tryz.prog.cellsOf 3 = 1 := by kernel_rfl
  have c_1 : Tryz.prog.cellsOf 2 = 1 := by kernel_rfl
  have c_2 : Tryz.prog.cellsOf 9 = 1 := by kernel_rfl
  have c_3 : Tryz.prog.cellsOf 29 = 11 := by kernel_rfl
  have c_4 : Tryz.prog.cellsOf 32 = 11 := by kernel_rfl
  have c_5 : Tryz.prog.cellsOf 36 = 4 := by kernel_rfl
  have c_6 : Tryz.prog.cellsOf 40 = 7 := by kernel_rfl
  have c_7 : Tryz.prog.cellsOf 42 = 15 := by kernel_rfl
  have c_8 : Tryz.prog.cellsOf 43 = 1 := by kernel_rfl
  have c_9 : Tryz.prog.cellsOf 30 = 1 := by kernel_rfl
  have c_10 : Tryz.prog.cellsOf 4 = 1 := by kernel_rfl
  have f0 : DataW.trod enc Tryz.prog W 0 sp true n 3 (List.take (Tryz.prog.cellsOf 3) (List.drop 0 [v0, v1, v2, v3, v4, v5, v6, v7, v8, v9, v10, v11, v12, v13, v14, v15, v16, v17, v18, v19, v20, v21, v22, v23, v24, v25, v26, v27, v28, v29, v30, v31, v32, v33, v34, v35, v36, v37, v38, v39, v40, v41, v42, v43, v44, v45, v46, v47, v48, v49, v50, v51, v52, v53, v54, v55, v56])) = xs[0]? := hf 0 _ rfl
  rw [c_0, List.getElem?_eq_getElem (by omega)] at f0
  replace f0 : DataW.trod enc Tryz.prog W 0 sp true n 3 [v0] = some _ := f0
  obtain ⟨z0, i_z0, e0⟩ := int_of Tryz.underlying3 f0
  have f1 : DataW.trod enc Tryz.prog W 0 sp true n 2 (List.take (Tryz.prog.cellsOf 2) (List.drop 1 [v0, v1, v2, v3, v4, v5, v6, v7, v8, v9, v10, v11, v12, v13, v14, v15, v16, v17, v18, v19, v20, v21, v22, v23, v24, v25, v26, v27, v28, v29, v30, v31, v32, v33, v34, v35, v36, v37, v38, v39, v40, v41, v42, v43, v44, v45, v46, v47, v48, v49, v50, v51, v52, v53, v54, v55, v56])) = xs[1]? := hf 1 _ rfl
  rw [c_1, List.getElem?_eq_getElem (by omega)] at f1
  replace f1 : DataW.trod enc Tryz.prog W 0 sp true n 2 [v1] = some _ := f1
  obtain ⟨z1, i_z1, e1⟩ := int_of Tryz.underlying2 f1
  have f2 : DataW.trod enc Tryz.prog W 0 sp true n 3 (List.take (Tryz.prog.cellsOf 3) (List.drop 2 [v0, v1, v2, v3, v4, v5, v6, v7, v8, v9, v10, v11, v12, v13, v14, v15, v16, v17, v18, v19, v20, v21, v22, v23, v24, v25, v26, v27, v28, v29, v30, v31, v32, v33, v34, v35, v36, v37, v38, v39, v40, v41, v42, v43, v44, v45, v46, v47, v48, v49, v50, v51, v52, v53, v54, v55, v56])) = xs[2]? := hf 2 _ rfl
  rw [c_0, List.getElem?_eq_getElem (by omega)] at f2
  replace f2 : DataW.trod enc Tryz.prog W 0 sp true n 3 [v2] = some _ := f2
  obtain ⟨z2, i_z2, e2⟩ := int_of Tryz.underlying3 f2
  have f3 : DataW.trod enc Tryz.prog W 0 sp true n 3 (List.take (Tryz.prog.cellsOf 3) (List.drop 3 [v0, v1, v2, v3, v4, v5, v6, v7, v8, v9, v10, v11, v12, v13, v14, v15, v16, v17, v18, v19, v20, v21, v22, v23, v24, v25, v26, v27, v28, v29, v30, v31, v32, v33, v34, v35, v36, v37, v38, v39, v40, v41, v42, v43, v44, v45, v46, v47, v48, v49, v50, v51, v52, v53, v54, v55, v56])) = xs[3]? := hf 3 _ rfl
  rw [c_0, List.getElem?_eq_getElem (by omega)] at f3
  replace f3 : DataW.trod enc Tryz.prog W 0 sp true n 3 [v3] = some _ := f3
  obtain ⟨z3, i_z3, e3⟩ := int_of Tryz.underlying3 f3
  have f4 : DataW.trod enc Tryz.prog W 0 sp true n 9 (List.take (Tryz.prog.cellsOf 9) (List.drop 4 [v0, v1, v2, v3, v4, v5, v6, v7, v8, v9, v10, v11, v12, v13, v14, v15, v16, v17, v18, v19, v20, v21, v22, v23, v24, v25, v26, v27, v28, v29, v30, v31, v32, v33, v34, v35, v36, v37, v38, v39, v40, v41, v42, v43, v44, v45, v46, v47, v48, v49, v50, v51, v52, v53, v54, v55, v56])) = xs[4]? := hf 4 _ rfl
  rw [c_2, List.getElem?_eq_getElem (by omega)] at f4
  replace f4 : DataW.trod enc Tryz.prog W 0 sp true n 9 [v4] = some _ := f4
  obtain ⟨zo, i_zo, e4⟩ := str_of f4 (agg_small hw 4 (by omega))
  have f5 : DataW.trod enc Tryz.prog W 0 sp true n 29 (List.take (Tryz.prog.cellsOf 29) (List.drop 5 [v0, v1, v2, v3, v4, v5, v6, v7, v8, v9, v10, v11, v12, v13, v14, v15, v16, v17, v18, v19, v20, v21, v22, v23, v24, v25, v26, v27, v28, v29, v30, v31, v32, v33, v34, v35, v36, v37, v38, v39, v40, v41, v42, v43, v44, v45, v46, v47, v48, v49, v50, v51, v52, v53, v54, v55, v56])) = xs[5]? := hf 5 _ rfl
  rw [c_3, List.getElem?_eq_getElem (by omega)] at f5
  replace f5 : DataW.trod enc Tryz.prog W 0 sp true n 29 [v5, v6, v7, v8, v9, v10, v11, v12, v13, v14, v15] = some _ := f5
  obtain ⟨zq, i_zq, e5⟩ := req_of rfl f5 (agg_small hw 5 (by omega))
  unfold ReqR.cells at e5
  simp only [List.cons.injEq, and_true] at e5
  obtain ⟨e5_0, e5_1, e5_2, e5_3, e5_4, e5_5, e5_6, e5_7, e5_8, e5_9, e5_10⟩ := e5
  have f6 : DataW.trod enc Tryz.prog W 0 sp true n 32 (List.take (Tryz.prog.cellsOf 32) (List.drop 16 [v0, v1, v2, v3, v4, v5, v6, v7, v8, v9, v10, v11, v12, v13, v14, v15, v16, v17, v18, v19, v20, v21, v22, v23, v24, v25, v26, v27, v28, v29, v30, v31, v32, v33, v34, v35, v36, v37, v38, v39, v40, v41, v42, v43, v44, v45, v46, v47, v48, v49, v50, v51, v52, v53, v54, v55, v56])) = xs[6]? := hf 6 _ rfl
  rw [c_4, List.getElem?_eq_getElem (by omega)] at f6
  replace f6 : DataW.trod enc Tryz.prog W 0 sp true n 32 [v16, v17, v18, v19, v20, v21, v22, v23, v24, v25, v26] = some _ := f6
  obtain ⟨zm, i_zm, e6⟩ := met_of rfl f6 (agg_small hw 6 (by omega))
  unfold MetR.cells at e6
  simp only [List.cons.injEq, and_true] at e6
  obtain ⟨e6_0, e6_1, e6_2, e6_3, e6_4, e6_5, e6_6, e6_7, e6_8, e6_9, e6_10⟩ := e6
  have f7 : DataW.trod enc Tryz.prog W 0 sp true n 36 (List.take (Tryz.prog.cellsOf 36) (List.drop 27 [v0, v1, v2, v3, v4, v5, v6, v7, v8, v9, v10, v11, v12, v13, v14, v15, v16, v17, v18, v19, v20, v21, v22, v23, v24, v25, v26, v27, v28, v29, v30, v31, v32, v33, v34, v35, v36, v37, v38, v39, v40, v41, v42, v43, v44, v45, v46, v47, v48, v49, v50, v51, v52, v53, v54, v55, v56])) = xs[7]? := hf 7 _ rfl
  rw [c_5, List.getElem?_eq_getElem (by omega)] at f7
  replace f7 : DataW.trod enc Tryz.prog W 0 sp true n 36 [v27, v28, v29, v30] = some _ := f7
  obtain ⟨za, i_za, e7⟩ := ans_of rfl f7 (agg_small hw 7 (by omega))
  unfold AnsR.cells at e7
  simp only [List.cons.injEq, and_true] at e7
  obtain ⟨e7_0, e7_1, e7_2, e7_3⟩ := e7
  have f8 : DataW.trod enc Tryz.prog W 0 sp true n 40 (List.take (Tryz.prog.cellsOf 40) (List.drop 31 [v0, v1, v2, v3, v4, v5, v6, v7, v8, v9, v10, v11, v12, v13, v14, v15, v16, v17, v18, v19, v20, v21, v22, v23, v24, v25, v26, v27, v28, v29, v30, v31, v32, v33, v34, v35, v36, v37, v38, v39, v40, v41, v42, v43, v44, v45, v46, v47, v48, v49, v50, v51, v52, v53, v54, v55, v56])) = xs[8]? := hf 8 _ rfl
  rw [c_6, List.getElem?_eq_getElem (by omega)] at f8
  replace f8 : DataW.trod enc Tryz.prog W 0 sp true n 40 [v31, v32, v33, v34, v35, v36, v37] = some _ := f8
  obtain ⟨zf, i_zf, e8⟩ := fet_of rfl f8 (agg_small hw 8 (by omega))
  unfold ftC at e8
  simp only [List.cons.injEq, and_true] at e8
  obtain ⟨e8_0, e8_1, e8_2, e8_3, e8_4, e8_5, e8_6⟩ := e8
  have f9 : DataW.trod enc Tryz.prog W 0 sp true n 42 (List.take (Tryz.prog.cellsOf 42) (List.drop 38 [v0, v1, v2, v3, v4, v5, v6, v7, v8, v9, v10, v11, v12, v13, v14, v15, v16, v17, v18, v19, v20, v21, v22, v23, v24, v25, v26, v27, v28, v29, v30, v31, v32, v33, v34, v35, v36, v37, v38, v39, v40, v41, v42, v43, v44, v45, v46, v47, v48, v49, v50, v51, v52, v53, v54, v55, v56])) = xs[9]? := hf 9 _ rfl
  rw [c_7, List.getElem?_eq_getElem (by omega)] at f9
  replace f9 : DataW.trod enc Tryz.prog W 0 sp true n 42 [v38, v39, v40, v41, v42, v43, v44, v45, v46, v47, v48, v49, v50, v51, v52] = some _ := f9
  obtain ⟨zr, i_zr, e9⟩ := rep_of rfl f9 (agg_small hw 9 (by omega))
  unfold RepR.cells at e9
  unfold MetR.cells at e9
  simp only [List.cons_append, List.nil_append, List.cons.injEq, and_true] at e9
  obtain ⟨e9_0, e9_1, e9_2, e9_3, e9_4, e9_5, e9_6, e9_7, e9_8, e9_9, e9_10, e9_11, e9_12, e9_13, e9_14⟩ := e9
  have f10 : DataW.trod enc Tryz.prog W 0 sp true n 43 (List.take (Tryz.prog.cellsOf 43) (List.drop 53 [v0, v1, v2, v3, v4, v5, v6, v7, v8, v9, v10, v11, v12, v13, v14, v15, v16, v17, v18, v19, v20, v21, v22, v23, v24, v25, v26, v27, v28, v29, v30, v31, v32, v33, v34, v35, v36, v37, v38, v39, v40, v41, v42, v43, v44, v45, v46, v47, v48, v49, v50, v51, v52, v53, v54, v55, v56])) = xs[10]? := hf 10 _ rfl
  rw [c_8, List.getElem?_eq_getElem (by omega)] at f10
  replace f10 : DataW.trod enc Tryz.prog W 0 sp true n 43 [v53] = some _ := f10
  obtain ⟨zb, i_zb, e10⟩ := bytes_ofB f10 (agg_small hw 10 (by omega))
  have f11 : DataW.trod enc Tryz.prog W 0 sp true n 30 (List.take (Tryz.prog.cellsOf 30) (List.drop 54 [v0, v1, v2, v3, v4, v5, v6, v7, v8, v9, v10, v11, v12, v13, v14, v15, v16, v17, v18, v19, v20, v21, v22, v23, v24, v25, v26, v27, v28, v29, v30, v31, v32, v33, v34, v35, v36, v37, v38, v39, v40, v41, v42, v43, v44, v45, v46, v47, v48, v49, v50, v51, v52, v53, v54, v55, v56])) = xs[11]? := hf 11 _ rfl
  rw [c_9, List.getElem?_eq_getElem (by omega)] at f11
  replace f11 : DataW.trod enc Tryz.prog W 0 sp true n 30 [v54] = some _ := f11
  obtain ⟨zk, i_zk, e11⟩ := texts_of f11 (agg_small hw 11 (by omega))
  have f12 : DataW.trod enc Tryz.prog W 0 sp true n 4 (List.take (Tryz.prog.cellsOf 4) (List.drop 55 [v0, v1, v2, v3, v4, v5, v6, v7, v8, v9, v10, v11, v12, v13, v14, v15, v16, v17, v18, v19, v20, v21, v22, v23, v24, v25, v26, v27, v28, v29, v30, v31, v32, v33, v34, v35, v36, v37, v38, v39, v40, v41, v42, v43, v44, v45, v46, v47, v48, v49, v50, v51, v52, v53, v54, v55, v56])) = xs[12]? := hf 12 _ rfl
  rw [c_10, List.getElem?_eq_getElem (by omega)] at f12
  replace f12 : DataW.trod enc Tryz.prog W 0 sp true n 4 [v55] = some _ := f12
  obtain ⟨zh, e12⟩ := bool_of f12
  have f13 : DataW.trod enc Tryz.prog W 0 sp true n 4 (List.take (Tryz.prog.cellsOf 4) (List.drop 56 [v0, v1, v2, v3, v4, v5, v6, v7, v8, v9, v10, v11, v12, v13, v14, v15, v16, v17, v18, v19, v20, v21, v22, v23, v24, v25, v26, v27, v28, v29, v30, v31, v32, v33, v34, v35, v36, v37, v38, v39, v40, v41, v42, v43, v44, v45, v46, v47, v48, v49, v50, v51, v52, v53, v54, v55, v56])) = xs[13]? := hf 13 _ rfl
  rw [c_10, List.getElem?_eq_getElem (by omega)] at f13
  replace f13 : DataW.trod enc Tryz.prog W 0 sp true n 4 [v56] = some _ := f13
  obtain ⟨zw, e13⟩ := bool_of f13
  subst e0
  subst e1
  subst e2
  subst e3
  subst e4
  subst e5_0 e5_1 e5_2 e5_3 e5_4 e5_5 e5_6 e5_7 e5_8 e5_9 e5_10
  subst e6_0 e6_1 e6_2 e6_3 e6_4 e6_5 e6_6 e6_7 e6_8 e6_9 e6_10
  subst e7_0 e7_1 e7_2 e7_3
  subst e8_0 e8_1 e8_2 e8_3 e8_4 e8_5 e8_6
  subst e9_0 e9_1 e9_2 e9_3 e9_4 e9_5 e9_6 e9_7 e9_8 e9_9 e9_10 e9_11 e9_12 e9_13 e9_14
  subst e10
  subst e11
  subst e12
  subst e13
  exact ⟨⟨z0, z1, z2, z3, zo, zq, zm, za, zf, zr, zb, zk, zh, zw⟩, ⟨⟨i_z0, i_z1, i_z2, i_z3, i_zq.ok, i_zm.ok, i_za.ok, i_zf.i, i_zr.ok, i_zb.1, i_zk.1⟩, ⟨i_zo, i_zq.object, i_zq.specs, i_zq.mtch, i_zq.non, i_zq.range, i_zm.tag, i_zm.keys, i_zm.tenant, i_za.fields, i_za.parts, i_zf.object, i_zf.mtch, i_zf.non, i_zr.met.tag, i_zr.met.keys, i_zr.met.tenant, i_zb.2, i_zk.2⟩⟩, rfl⟩
set_option maxRecDepth 100000 in
theorem evts_of (h : DataW.trod enc Tryz.prog W 0 sp true fuel 48 [v] = some x) (hw : Rows.uptoBulk x.1 ≤ 1048576) : ∃ (A : Option Addr) (c : Nat) (l : List EvtR), (RV W A (fl EvtR.cells l) ∧ l.length ≤ c ∧ c ≤ 9223372036854775807 ∧ l.length ≤ 1048576 ∧ ∀ e ∈ l, EvtOK W e ∧ BigE e.abs) ∧ v = .slice A l.length c := by
  have hk : Tryz.prog.cellsOf 45 = 57 := by kernel_rfl
  obtain ⟨rows, A, cap, rfl, h1, h2, h3, h4, h5⟩ := rows_ofB (k := 57) Tryz.underlying48 hk (by omega) h hw
  obtain ⟨l, rfl, hp⟩ := map_ofB (p := fun e => EvtOK W e ∧ BigE e.abs) EvtR.cells (vs := rows) (fun r hr => by
    obtain ⟨hl, n, d, hd, hb⟩ := h5 r hr
    exact evt_of hl hd hb)
  rw [List.length_map] at h1 h4
  refine ⟨A, cap, l, ⟨h3, h1, by unfold maxLen at h2; exact h2, h4, hp⟩, ?_⟩
  rw [List.length_map]
end
section
variable {H : Type} {enc : TypeId × Value → H} {W : World} {v : Value} {d : DataW H} {p : List MemPlace} {base : Nat}
set_option maxRecDepth 100000 in
theorem open_evts (hv : Value.okWide Tryz.prog W .any base 48 v) (h : DataW.Trod enc Tryz.prog W 0 (fun _ => true) true 48 v d p) (hw : Rows.uptoBulk d ≤ 1048576) : ∃ (A : Option Addr) (c : Nat) (l : List EvtR), (RV W A (fl EvtR.cells l) ∧ l.length ≤ c ∧ c ≤ 9223372036854775807 ∧ l.length ≤ 1048576 ∧ ∀ e ∈ l, EvtOK W e ∧ BigE e.abs) ∧ v = .slice A l.length c := by
  obtain ⟨n, hf⟩ := trod_one Tryz.underlying48 hv h
  exact evts_of hf hw
end
end Go.Proofs.YtiokbebodblhaaaGreatDoor
