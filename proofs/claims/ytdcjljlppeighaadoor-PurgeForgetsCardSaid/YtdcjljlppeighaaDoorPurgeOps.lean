/-
  The lines, calls and keys that come in, opened, with the bounds of what they hold.
-/
import Derived.Test.YtdcjljlppeighaaDoorOpen
import Derived.Test.YtdcjljlppeighaaDoorPurgeMem
import Derived.Test.YtdcjljlppeighaaDoorPurgeWalkB
import Derived.SizedLaws
namespace Go.Proofs.YtdcjljlppeighaaDoor
open Go.ChangeShapes Go.WideShapes Go.ChangeAt Go.RowKit Go.Deep PurgeP

theorem i64_of {x : Int} (h : (Lit.int .i64 x).wf = true) : -9223372036854775808 ≤ x ∧ x ≤ 9223372036854775807 := by
  simpa [Lit.wf, IntKind.min, IntKind.max, IntKind.signed, IntKind.bits] using h
theorem bstr_back (s : ByteArray) : bstr s.data.toList = s := by unfold bstr; apply ByteArray.ext; simp
theorem weights_mem_all {H : Type} {P : Program} {e : TypeId} : ∀ {l : List (DataW H)} {d : DataW H} {n : Nat}, d ∈ l → n ∈ d.weights P e → n ∈ DataW.weightsAll P e l
  | c :: l, d, n, hd, hn => by
    simp only [DataW.weightsAll, List.mem_append]
    rcases List.mem_cons.1 hd with rfl | hd
    · exact .inl hn
    · exact .inr (weights_mem_all hd hn)
theorem map_of' {α β : Type} {p : α → Prop} (f : α → β) {vs : List β} (h : ∀ u ∈ vs, ∃ a, p a ∧ u = f a) : ∃ l : List α, vs = l.map f ∧ ∀ a ∈ l, p a := by
  induction vs with
  | nil => exact ⟨[], rfl, by simp⟩
  | cons u vs ih =>
    obtain ⟨a, ha, rfl⟩ := h u (by simp)
    obtain ⟨l, rfl, hl⟩ := ih (fun u hu => h u (by simp [hu]))
    exact ⟨a :: l, rfl, by simpa using ⟨ha, hl⟩⟩
theorem len3 {r : List Value} (h : r.length = 3) : ∃ a b c, r = [a, b, c] := by
  match r, h with
  | [a, b, c], _ => exact ⟨a, b, c, rfl⟩
theorem len4 {r : List Value} (h : r.length = 4) : ∃ a b c d, r = [a, b, c, d] := by
  match r, h with
  | [a, b, c, d], _ => exact ⟨a, b, c, d, rfl⟩
theorem len2 {r : List Value} (h : r.length = 2) : ∃ a b, r = [a, b] := by
  match r, h with
  | [a, b], _ => exact ⟨a, b, rfl⟩
section
variable {H : Type} {enc : TypeId × Value → H} {P : Program} {W : World} {sp : Nat → Bool} {v : Value} {x : DataW H × List MemPlace} {fuel : Nat}
theorem rows_ofW {t e : TypeId} {k : Nat} (ht : P.underlying t = some (.slice e)) (hk : P.cellsOf e = k) (hpos : 0 < k) (h : DataW.trod enc P W 0 sp true fuel t [v] = some x) :
    ∃ (rows : List (List Value)) (A : Option Addr) (cap : Nat), v = .slice A rows.length cap ∧ rows.length ≤ cap ∧ cap ≤ maxLen ∧ RV W A rows.flatten ∧ (∀ b off, A = some ⟨b, off, none⟩ → rows ≠ [] → b < W.heap.size) ∧
      ∀ r ∈ rows, r.length = k ∧ ∃ n d, DataW.trod enc P W 0 sp true n e r = some d ∧ ∀ q ∈ d.1.weights P e, q ∈ x.1.weights P t := by
  rcases open_slice ht h with ⟨h0, _⟩ | ⟨a, len, cap, m, n, D, Pl, hcs, hb, hl, hm, hmm, hx, hi⟩
  · simp at h0
    subst h0
    exact ⟨[], none, 0, rfl, Nat.le_refl _, Nat.zero_le _, RV.nil, (fun _ _ h => by cases h), (fun r hr => by cases hr)⟩
  · simp at hcs
    subst hcs
    rw [hk] at hi
    have hlm : len ≤ m := by rw [hmm]; split <;> omega
    obtain ⟨R, hR⟩ := choose_lt (n := len) (p := fun i cs' => W.cells? 0 (a.add (i * k)) k = some cs' ∧ DataW.trod enc P W 0 sp true n e cs' = some (D i, Pl i)) (fun i hil => hi i (by omega))
    have hlen : ((List.range len).map R).length = len := by simp
    have hrl : ∀ r ∈ (List.range len).map R, r.length = k := by
      intro r hr
      simp only [List.mem_map, List.mem_range] at hr
      obtain ⟨i, hil, rfl⟩ := hr
      exact (World.cells?_some (hR i hil).1).2.1
    refine ⟨(List.range len).map R, some a, cap, by rw [hlen], by rw [hlen]; exact hl, hm, ?_, ?_, ?_⟩
    · intro hne
      have hlp : 0 < len := by
        rcases Nat.eq_zero_or_pos len with h0 | h0
        · subst h0; exact absurd rfl hne
        · exact h0
      have hc0 := (World.cells?_some (hR 0 hlp).1).2.2 0 hpos
      obtain ⟨b, off, spot⟩ := a
      have hsome : (R 0)[0]? = some ((R 0)[0]'(by rw [(World.cells?_some (hR 0 hlp).1).2.1]; exact hpos)) := List.getElem?_eq_getElem _
      rw [hsome] at hc0
      have hspot : spot = none := by simpa [Addr.add] using World.cell?_spot hc0
      subst hspot
      have hadd : ∀ j, (⟨b, off, none⟩ : Addr).add j = ⟨b, off + j, none⟩ := by intro j; unfold Addr.add; split <;> simp_all
      refine ⟨b, off, rfl, ?_, fun j u hu => ?_⟩
      · have := block_lt_of_cell hc0
        rw [add_add] at this
        rwa [hadd] at this
      · rw [flat_get2 hrl j hpos] at hu
        have hq : j / k < len := by
          rcases Nat.lt_or_ge (j / k) len with h | h
          · exact h
          · rw [List.getElem?_eq_none (by rw [hlen]; exact h)] at hu; cases hu
        rw [List.getElem?_map, List.getElem?_range hq] at hu
        simp only [Option.map_some, Option.bind_some] at hu
        have hc := (World.cells?_some (hR (j / k) hq).1).2.2 (j % k) (Nat.mod_lt _ hpos)
        rw [add_add, hadd, Nat.div_add_mod' j k] at hc
        rw [hc, hu]
    · intro b off hA hne
      have hlp : 0 < len := by
        rcases Nat.eq_zero_or_pos len with h0 | h0
        · subst h0; exact absurd rfl hne
        · exact h0
      have hc0 := (World.cells?_some (hR 0 hlp).1).2.2 0 hpos
      have hsome : (R 0)[0]? = some ((R 0)[0]'(by rw [(World.cells?_some (hR 0 hlp).1).2.1]; exact hpos)) := List.getElem?_eq_getElem _
      rw [hsome] at hc0
      have := block_lt_of_cell hc0
      rw [add_add] at this
      injection hA with hA
      subst hA
      have hadd : ∀ j, (⟨b, off, none⟩ : Addr).add j = ⟨b, off + j, none⟩ := by intro j; unfold Addr.add; split <;> simp_all
      rwa [hadd] at this
    · intro r hr
      refine ⟨hrl r hr, ?_⟩
      simp only [List.mem_map, List.mem_range] at hr
      obtain ⟨i, hil, rfl⟩ := hr
      refine ⟨n, _, (hR i hil).2, fun q hq => ?_⟩
      rw [hx]
      simp only [DataW.weights, ht]
      exact List.mem_cons_of_mem _ (List.mem_append_left _ (weights_mem_all (List.mem_map.2 ⟨i, List.mem_range.2 hil, rfl⟩) hq))
end
theorem cS_flat : ∀ ks : List Txt, (ks.map fun t : Txt => [Value.string (bstr t)]).flatten = cS ks
  | [] => rfl
  | k :: ks => by rw [List.map_cons, List.flatten_cons, cS_flat ks]; rfl
/-- Keys that lie in memory, none too long. -/
structure KeysOK (W : World) (A : Option Addr) (ks : List Txt) (cap : Nat) : Prop where
  le : ks.length ≤ cap
  cap : cap ≤ 9223372036854775807
  rs : RS W A ks
  small : ∀ t ∈ ks, t.length ≤ 140737488351232
/-- A line, as it comes in. -/
structure LineOK (W : World) (r : LnR) : Prop where
  n1 : -9223372036854775808 ≤ r.no
  n2 : r.no ≤ 9223372036854775807
  ks : KeysOK W r.A r.keys r.cap
/-- A call, as it comes in. -/
structure ActR where
  kind : Int
  keys : List Txt
  A : Option Addr
  cap : Nat
  hard : Bool
  n : Int
def ActR.cells (a : ActR) : List Value := [.int .i64 a.kind, .slice a.A a.keys.length a.cap, .bool a.hard, .int .i64 a.n]
structure ActOK (W : World) (a : ActR) : Prop where
  k1 : -9223372036854775808 ≤ a.kind
  k2 : a.kind ≤ 9223372036854775807
  n1 : -9223372036854775808 ≤ a.n
  n2 : a.n ≤ 9223372036854775807
  ks : KeysOK W a.A a.keys a.cap
section
variable {H : Type} {enc : TypeId × Value → H} {W : World} {sp : Nat → Bool} {v : Value} {x : DataW H × List MemPlace} {fuel : Nat}
theorem keys_of (h : DataW.trod enc Tryd.prog W 0 sp true fuel 31 [v] = some x) (hw : ∀ n ∈ x.1.weights Tryd.prog 31, n ≤ reachBytes) :
    ∃ (ks : List Txt) (A : Option Addr) (cap : Nat), v = .slice A ks.length cap ∧ KeysOK W A ks cap := by
  obtain ⟨rows, A, cap, rfl, h1, h2, h3, _, h5⟩ := rows_ofW Tryd.underlying31 (k := 1) (by kernel_rfl) (by omega) h
  obtain ⟨ks, rfl, hl⟩ := map_of' (fun t : Txt => [Value.string (bstr t)]) (p := fun t => t.length ≤ 140737488351232) (vs := rows) (fun r hr => by
    obtain ⟨_, n, d, hd, hq⟩ := h5 r hr
    obtain ⟨s, rfl, rfl, _⟩ := DataW.trod_string Tryd.underlying9 hd
    refine ⟨s.data.toList, ?_, by rw [bstr_back]⟩
    have := hw _ (hq s.data.toList.length (by simp [DataW.weights]))
    unfold reachBytes at this
    omega)
  have e := cS_flat ks
  rw [e] at h3
  unfold maxLen at h2
  exact ⟨ks, A, cap, by simp, by simpa using h1, by omega, h3, hl⟩
theorem line_of {r : List Value} (hr : r.length = 3) (h : DataW.trod enc Tryd.prog W 0 sp true fuel 51 r = some x) (hw : ∀ n ∈ x.1.weights Tryd.prog 51, n ≤ reachBytes) : ∃ l : LnR, LineOK W l ∧ r = l.cells := by
  obtain ⟨v0, v1, v2, rfl⟩ := len3 hr
  obtain ⟨xs, n, rfl, rfl, _, hl, hf⟩ := DataW.trod_struct Tryd.underlying51 h
  have c_bool : Tryd.prog.cellsOf 4 = 1 := by kernel_rfl
  have c_int64 : Tryd.prog.cellsOf 2 = 1 := by kernel_rfl
  have c_sl : Tryd.prog.cellsOf 31 = 1 := by kernel_rfl
  have l : xs.length = 3 := hl
  have f0 : DataW.trod enc Tryd.prog W 0 sp true n 2 (List.take (Tryd.prog.cellsOf 2) (List.drop 0 [v0, v1, v2])) = xs[0]? := hf 0 _ rfl
  rw [c_int64, List.getElem?_eq_getElem (by omega)] at f0
  replace f0 : DataW.trod enc Tryd.prog W 0 sp true n 2 [v0] = some _ := f0
  have f1 : DataW.trod enc Tryd.prog W 0 sp true n 31 (List.take (Tryd.prog.cellsOf 31) (List.drop 1 [v0, v1, v2])) = xs[1]? := hf 1 _ rfl
  rw [c_sl, List.getElem?_eq_getElem (by omega)] at f1
  replace f1 : DataW.trod enc Tryd.prog W 0 sp true n 31 [v1] = some _ := f1
  have f2 : DataW.trod enc Tryd.prog W 0 sp true n 4 (List.take (Tryd.prog.cellsOf 4) (List.drop 2 [v0, v1, v2])) = xs[2]? := hf 2 _ rfl
  rw [c_bool, List.getElem?_eq_getElem (by omega)] at f2
  replace f2 : DataW.trod enc Tryd.prog W 0 sp true n 4 [v2] = some _ := f2
  obtain ⟨z0, e0, _, w0⟩ := DataW.trod_int Tryd.underlying2 f0
  injection e0 with e0
  obtain ⟨ks, A, cap, e1, hk⟩ := keys_of f1 (fun m hm => hw m (by
    simp only [DataW.weights, Tryd.underlying51]
    exact DataW.weights_mem_each (j := 1) (t := 31) (d := xs[1].1) rfl (by rw [List.getElem?_map, List.getElem?_eq_getElem (by omega)]; rfl) m hm))
  obtain ⟨z2, e2, _⟩ := DataW.trod_bool Tryd.underlying4 f2
  injection e2 with e2
  subst e0 e1 e2
  exact ⟨⟨z0, A, cap, ks, z2⟩, ⟨(i64_of w0).1, (i64_of w0).2, hk⟩, rfl⟩
theorem act_of {r : List Value} (hr : r.length = 4) (h : DataW.trod enc Tryd.prog W 0 sp true fuel 33 r = some x) (hw : ∀ n ∈ x.1.weights Tryd.prog 33, n ≤ reachBytes) : ∃ l : ActR, ActOK W l ∧ r = l.cells := by
  obtain ⟨v0, v1, v2, v3, rfl⟩ := len4 hr
  obtain ⟨xs, n, rfl, rfl, _, hl, hf⟩ := DataW.trod_struct Tryd.underlying33 h
  have c_bool : Tryd.prog.cellsOf 4 = 1 := by kernel_rfl
  have c_int : Tryd.prog.cellsOf 3 = 1 := by kernel_rfl
  have c_int64 : Tryd.prog.cellsOf 2 = 1 := by kernel_rfl
  have c_sl : Tryd.prog.cellsOf 31 = 1 := by kernel_rfl
  have l : xs.length = 4 := hl
  have f0 : DataW.trod enc Tryd.prog W 0 sp true n 3 (List.take (Tryd.prog.cellsOf 3) (List.drop 0 [v0, v1, v2, v3])) = xs[0]? := hf 0 _ rfl
  rw [c_int, List.getElem?_eq_getElem (by omega)] at f0
  replace f0 : DataW.trod enc Tryd.prog W 0 sp true n 3 [v0] = some _ := f0
  have f1 : DataW.trod enc Tryd.prog W 0 sp true n 31 (List.take (Tryd.prog.cellsOf 31) (List.drop 1 [v0, v1, v2, v3])) = xs[1]? := hf 1 _ rfl
  rw [c_sl, List.getElem?_eq_getElem (by omega)] at f1
  replace f1 : DataW.trod enc Tryd.prog W 0 sp true n 31 [v1] = some _ := f1
  have f2 : DataW.trod enc Tryd.prog W 0 sp true n 4 (List.take (Tryd.prog.cellsOf 4) (List.drop 2 [v0, v1, v2, v3])) = xs[2]? := hf 2 _ rfl
  rw [c_bool, List.getElem?_eq_getElem (by omega)] at f2
  replace f2 : DataW.trod enc Tryd.prog W 0 sp true n 4 [v2] = some _ := f2
  have f3 : DataW.trod enc Tryd.prog W 0 sp true n 2 (List.take (Tryd.prog.cellsOf 2) (List.drop 3 [v0, v1, v2, v3])) = xs[3]? := hf 3 _ rfl
  rw [c_int64, List.getElem?_eq_getElem (by omega)] at f3
  replace f3 : DataW.trod enc Tryd.prog W 0 sp true n 2 [v3] = some _ := f3
  obtain ⟨z0, e0, _, w0⟩ := DataW.trod_int Tryd.underlying3 f0
  injection e0 with e0
  obtain ⟨ks, A, cap, e1, hk⟩ := keys_of f1 (fun m hm => hw m (by
    simp only [DataW.weights, Tryd.underlying33]
    exact DataW.weights_mem_each (j := 1) (t := 31) (d := xs[1].1) rfl (by rw [List.getElem?_map, List.getElem?_eq_getElem (by omega)]; rfl) m hm))
  obtain ⟨z2, e2, _⟩ := DataW.trod_bool Tryd.underlying4 f2
  injection e2 with e2
  obtain ⟨z3, e3, _, w3⟩ := DataW.trod_int Tryd.underlying2 f3
  injection e3 with e3
  subst e0 e1 e2 e3
  exact ⟨⟨z0, ks, A, cap, z2, z3⟩, ⟨(i64_of w0).1, (i64_of w0).2, (i64_of w3).1, (i64_of w3).2, hk⟩, rfl⟩
theorem lines_of (h : DataW.trod enc Tryd.prog W 0 sp true fuel 26 [v] = some x) (hw : ∀ n ∈ x.1.weights Tryd.prog 26, n ≤ reachBytes) :
    ∃ (l : List LnR) (A : Option Addr) (cap : Nat), v = .slice A l.length cap ∧ l.length ≤ cap ∧ cap ≤ 9223372036854775807 ∧ RV W A (lC l) ∧ ∀ o ∈ l, LineOK W o := by
  obtain ⟨rows, A, cap, rfl, h1, h2, h3, _, h5⟩ := rows_ofW Tryd.underlying26 (k := 3) (by kernel_rfl) (by omega) h
  obtain ⟨l, rfl, hl⟩ := map_of' LnR.cells (p := LineOK W) (vs := rows) (fun r hr => by
    obtain ⟨hlen, n, d, hd, hq⟩ := h5 r hr
    exact line_of hlen hd (fun m hm => hw m (hq m hm)))
  unfold maxLen at h2
  exact ⟨l, A, cap, by simp, by simpa using h1, by omega, by simpa [lC, List.flatMap] using h3, hl⟩
theorem acts_of (h : DataW.trod enc Tryd.prog W 0 sp true fuel 22 [v] = some x) (hw : ∀ n ∈ x.1.weights Tryd.prog 22, n ≤ reachBytes) :
    ∃ (l : List ActR) (A : Option Addr) (cap : Nat), v = .slice A l.length cap ∧ l.length ≤ cap ∧ cap ≤ 9223372036854775807 ∧ RV W A (l.flatMap ActR.cells) ∧ ∀ o ∈ l, ActOK W o := by
  obtain ⟨rows, A, cap, rfl, h1, h2, h3, _, h5⟩ := rows_ofW Tryd.underlying22 (k := 4) (by kernel_rfl) (by omega) h
  obtain ⟨l, rfl, hl⟩ := map_of' ActR.cells (p := ActOK W) (vs := rows) (fun r hr => by
    obtain ⟨hlen, n, d, hd, hq⟩ := h5 r hr
    exact act_of hlen hd (fun m hm => hw m (hq m hm)))
  unfold maxLen at h2
  exact ⟨l, A, cap, by simp, by simpa using h1, by omega, by simpa [List.flatMap] using h3, hl⟩
end
theorem acts_get (l : List ActR) (k i : Nat) (hi : i < 4) : (l.flatMap ActR.cells)[k * 4 + i]? = (l[k]?).bind fun a => a.cells[i]? := by
  have := flat_get2 (rows := l.map ActR.cells) (k := 4) (by
    intro r hr
    simp only [List.mem_map] at hr
    obtain ⟨a, _, rfl⟩ := hr
    rfl) (k * 4 + i) (by omega)
  rw [show (k * 4 + i) / 4 = k by omega, show (k * 4 + i) % 4 = i by omega, List.getElem?_map] at this
  rw [List.flatMap]
  rw [this]
  cases l[k]? <;> rfl
section
variable {H : Type} {enc : TypeId × Value → H} {W : World} {v : Value} {d : DataW H} {p : List MemPlace} {base : Nat}
set_option maxRecDepth 100000 in
theorem open_line (hv : Value.okWide Tryd.prog W .any base 51 v) (h : DataW.Trod enc Tryd.prog W 0 (fun _ => true) true 51 v d p) (hw : ∀ n ∈ d.weights Tryd.prog 51, n ≤ reachBytes) : ∃ o : LnR, LineOK W o ∧ v = .agg o.cells.toArray := by
  obtain ⟨cs, rfl, hsz⟩ := okWide_struct Tryd.underlying51 hv
  rw [show Tryd.prog.cellsOf 51 = 3 by kernel_rfl] at hsz
  obtain ⟨fuel, hf⟩ := h
  obtain ⟨o, ho, e⟩ := line_of (r := cs.toList) (by simpa using hsz) hf hw
  exact ⟨o, ho, by rw [← e]⟩
set_option maxRecDepth 100000 in
theorem open_keys (hv : Value.okWide Tryd.prog W .any base 31 v) (h : DataW.Trod enc Tryd.prog W 0 (fun _ => true) true 31 v d p) (hw : ∀ n ∈ d.weights Tryd.prog 31, n ≤ reachBytes) :
    ∃ (ks : List Txt) (A : Option Addr) (cap : Nat), v = .slice A ks.length cap ∧ KeysOK W A ks cap := by
  obtain ⟨n, hf⟩ := trod_one Tryd.underlying31 hv h
  exact keys_of hf hw
set_option maxRecDepth 100000 in
theorem open_lines (hv : Value.okWide Tryd.prog W .any base 26 v) (h : DataW.Trod enc Tryd.prog W 0 (fun _ => true) true 26 v d p) (hw : ∀ n ∈ d.weights Tryd.prog 26, n ≤ reachBytes) :
    ∃ (l : List LnR) (A : Option Addr) (cap : Nat), v = .slice A l.length cap ∧ l.length ≤ cap ∧ cap ≤ 9223372036854775807 ∧ RV W A (lC l) ∧ ∀ o ∈ l, LineOK W o := by
  obtain ⟨n, hf⟩ := trod_one Tryd.underlying26 hv h
  exact lines_of hf hw
set_option maxRecDepth 100000 in
theorem open_acts (hv : Value.okWide Tryd.prog W .any base 22 v) (h : DataW.Trod enc Tryd.prog W 0 (fun _ => true) true 22 v d p) (hw : ∀ n ∈ d.weights Tryd.prog 22, n ≤ reachBytes) :
    ∃ (l : List ActR) (A : Option Addr) (cap : Nat), v = .slice A l.length cap ∧ l.length ≤ cap ∧ cap ≤ 9223372036854775807 ∧ RV W A (l.flatMap ActR.cells) ∧ ∀ o ∈ l, ActOK W o := by
  obtain ⟨n, hf⟩ := trod_one Tryd.underlying22 hv h
  exact acts_of hf hw
end
end Go.Proofs.YtdcjljlppeighaaDoor
