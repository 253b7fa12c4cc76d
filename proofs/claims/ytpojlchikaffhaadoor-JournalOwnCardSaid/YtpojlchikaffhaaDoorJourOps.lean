/-
  What the statements on logs take, opened, with the bounds of what it holds.
-/
import Derived.Test.YtpojlchikaffhaaDoorOpen
import Derived.Test.YtpojlchikaffhaaDoorJourDoE
import Derived.SizedLaws
namespace Go.Proofs.YtpojlchikaffhaaDoor
open Go.ChangeShapes Go.WideShapes Go.ChangeAt Go.RowKit Go.Deep DiskP JourP

theorem weights_mem_all {H : Type} {P : Program} {e : TypeId} : ∀ {l : List (DataW H)} {d : DataW H} {n : Nat}, d ∈ l → n ∈ d.weights P e → n ∈ DataW.weightsAll P e l
  | c :: l, d, n, hd, hn => by
    simp only [DataW.weightsAll, List.mem_append]
    rcases List.mem_cons.1 hd with rfl | hd
    · exact .inl hn
    · exact .inr (weights_mem_all hd hn)
theorem map_ofJ {α β : Type} {p : α → Prop} (f : α → β) {vs : List β} (h : ∀ u ∈ vs, ∃ a, p a ∧ u = f a) : ∃ l : List α, vs = l.map f ∧ ∀ a ∈ l, p a := by
  induction vs with
  | nil => exact ⟨[], rfl, by simp⟩
  | cons u vs ih =>
    obtain ⟨a, ha, rfl⟩ := h u (by simp)
    obtain ⟨l, rfl, hl⟩ := ih (fun u hu => h u (by simp [hu]))
    exact ⟨a :: l, rfl, by simpa using ⟨ha, hl⟩⟩
theorem i64_ofJ {x : Int} (h : (Lit.int .i64 x).wf = true) : -9223372036854775808 ≤ x ∧ x ≤ 9223372036854775807 := by
  simpa [Lit.wf, IntKind.min, IntKind.max, IntKind.signed, IntKind.bits] using h
theorem len2J {r : List Value} (h : r.length = 2) : ∃ a b, r = [a, b] := by
  match r, h with
  | [a, b], _ => exact ⟨a, b, rfl⟩
theorem len4J {r : List Value} (h : r.length = 4) : ∃ a b c d, r = [a, b, c, d] := by
  match r, h with
  | [a, b, c, d], _ => exact ⟨a, b, c, d, rfl⟩
theorem len6J {r : List Value} (h : r.length = 6) : ∃ a b c d e f, r = [a, b, c, d, e, f] := by
  match r, h with
  | [a, b, c, d, e, f], _ => exact ⟨a, b, c, d, e, f, rfl⟩
theorem rvf_none {W : World} {A : Option Addr} {vs : List Value} (h : RV W A vs) : RVF W (fun _ => False) A vs := fun hne => by
  obtain ⟨b, off, e, h1, h2⟩ := h hne
  exact ⟨b, off, e, h1, id, h2⟩
section
variable {H : Type} {enc : TypeId × Value → H} {P : Program} {W : World} {sp : Nat → Bool} {v : Value} {x : DataW H × List MemPlace} {fuel : Nat}
theorem rows_ofJ {t e : TypeId} {k : Nat} (ht : P.underlying t = some (.slice e)) (hk : P.cellsOf e = k) (hpos : 0 < k) (h : DataW.trod enc P W 0 sp true fuel t [v] = some x) :
    ∃ (rows : List (List Value)) (A : Option Addr) (cap : Nat), v = .slice A rows.length cap ∧ rows.length ≤ cap ∧ cap ≤ maxLen ∧ RV W A rows.flatten ∧ (∀ b off, A = some ⟨b, off, none⟩ → rows ≠ [] → b < W.heap.size) ∧
      ∀ r ∈ rows, r.length = k ∧ ∃ n d, DataW.trod enc P W 0 sp true n e r = some d ∧ ∀ q ∈ d.1.weights P e, q ∈ x.1.weights P t := by
  rcases open_slice ht h with ⟨h0, _⟩ | ⟨a, len, cap, m, n, D, Pl, hcs, hb, hl, hm, hmm, hx, hi⟩
  · simp at h0
    subst h0
    exact ⟨[], none, 0, rfl, Nat.le_refl _, Nat.zero_le _, RV.nil, (fun _ _ h => by cases h), (fun r hr => by cases hr)⟩
  · simp at hcs
    subst hcs
    rw [hk] at hi
    have hlm : len ≤ m := by rw [hmm]; split <;> omega
    obtain ⟨R, hR⟩ := choose_lt (n := len) (p := fun i cs' => W.cells? 0 (a.add (i * k)) k = some cs' ∧ DataW.trod enc P W 0 sp true n e cs' = some (D i, Pl i)) (fun i hil => hi i (by omega))
    have hlen : ((List.range len).map R).length = len := by simp
    have hrl : ∀ r ∈ (List.range len).map R, r.length = k := by
      intro r hr
      simp only [List.mem_map, List.mem_range] at hr
      obtain ⟨i, hil, rfl⟩ := hr
      exact (World.cells?_some (hR i hil).1).2.1
    refine ⟨(List.range len).map R, some a, cap, by rw [hlen], by rw [hlen]; exact hl, hm, ?_, ?_, ?_⟩
    · intro hne
      have hlp : 0 < len := by
        rcases Nat.eq_zero_or_pos len with h0 | h0
        · subst h0; exact absurd rfl hne
        · exact h0
      have hc0 := (World.cells?_some (hR 0 hlp).1).2.2 0 hpos
      obtain ⟨b, off, spot⟩ := a
      have hsome : (R 0)[0]? = some ((R 0)[0]'(by rw [(World.cells?_some (hR 0 hlp).1).2.1]; exact hpos)) := List.getElem?_eq_getElem _
      rw [hsome] at hc0
      have hspot : spot = none := by simpa [Addr.add] using World.cell?_spot hc0
      subst hspot
      have hadd : ∀ j, (⟨b, off, none⟩ : Addr).add j = ⟨b, off + j, none⟩ := by intro j; unfold Addr.add; split <;> simp_all
      refine ⟨b, off, rfl, ?_, fun j u hu => ?_⟩
      · have := block_lt_of_cell hc0
        rw [add_add] at this
        rwa [hadd] at this
      · rw [flat_get2 hrl j hpos] at hu
        have hq : j / k < len := by
          rcases Nat.lt_or_ge (j / k) len with h | h
          · exact h
          · rw [List.getElem?_eq_none (by rw [hlen]; exact h)] at hu; cases hu
        rw [List.getElem?_map, List.getElem?_range hq] at hu
        simp only [Option.map_some, Option.bind_some] at hu
        have hc := (World.cells?_some (hR (j / k) hq).1).2.2 (j % k) (Nat.mod_lt _ hpos)
        rw [add_add, hadd, Nat.div_add_mod' j k] at hc
        rw [hc, hu]
    · intro b off hA hne
      have hlp : 0 < len := by
        rcases Nat.eq_zero_or_pos len with h0 | h0
        · subst h0; exact absurd rfl hne
        · exact h0
      have hc0 := (World.cells?_some (hR 0 hlp).1).2.2 0 hpos
      have hsome : (R 0)[0]? = some ((R 0)[0]'(by rw [(World.cells?_some (hR 0 hlp).1).2.1]; exact hpos)) := List.getElem?_eq_getElem _
      rw [hsome] at hc0
      have := block_lt_of_cell hc0
      rw [add_add] at this
      injection hA with hA
      subst hA
      have hadd : ∀ j, (⟨b, off, none⟩ : Addr).add j = ⟨b, off + j, none⟩ := by intro j; unfold Addr.add; split <;> simp_all
      rwa [hadd] at this
    · intro r hr
      refine ⟨hrl r hr, ?_⟩
      simp only [List.mem_map, List.mem_range] at hr
      obtain ⟨i, hil, rfl⟩ := hr
      refine ⟨n, _, (hR i hil).2, fun q hq => ?_⟩
      rw [hx]
      simp only [DataW.weights, ht]
      exact List.mem_cons_of_mem _ (List.mem_append_left _ (weights_mem_all (List.mem_map.2 ⟨i, List.mem_range.2 hil, rfl⟩) hq))
theorem slice_small {t e : TypeId} {A : Option Addr} {n cap : Nat} (ht : P.underlying t = some (.slice e)) (hb : P.bytesOf e = 1) (h : DataW.trod enc P W 0 sp true fuel t [.slice A n cap] = some x) (hw : ∀ q ∈ x.1.weights P t, q ≤ reachBytes) : n ≤ 140737488351232 := by
  rcases open_slice ht h with ⟨h0, _⟩ | ⟨a, len, cap', m, n', D, Pl, hcs, hb', hl, hm, hmm, hx, hi⟩
  · simp at h0
    omega
  · simp at hcs
    obtain ⟨_, rfl, _⟩ := hcs
    have := hw _ (by rw [hx]; simp only [DataW.weights, ht]; exact List.mem_cons_self)
    rw [hb] at this
    simp at this
    unfold reachBytes at this
    omega
end
section
variable {H : Type} {enc : TypeId × Value → H} {W : World} {sp : Nat → Bool} {v : Value} {x : DataW H × List MemPlace} {fuel : Nat}
theorem rec_of {r : List Value} (hr : r.length = 2) (h : DataW.trod enc Tryd.prog W 0 sp true fuel 38 r = some x) (hw : ∀ n ∈ x.1.weights Tryd.prog 38, n ≤ reachBytes) : ∃ z : RecR, (RecOK W (fun _ => False) z ∧ z.body.length ≤ 140737488351232) ∧ r = z.cells := by
  obtain ⟨v0, v1, rfl⟩ := len2J hr
  obtain ⟨xs, n, rfl, rfl, _, hl, hf⟩ := DataW.trod_struct Tryd.underlying38 h
  have c_0 : Tryd.prog.cellsOf 24 = 1 := by kernel_rfl
  have c_1 : Tryd.prog.cellsOf 5 = 1 := by kernel_rfl
  have l : xs.length = 2 := hl
  have f0 : DataW.trod enc Tryd.prog W 0 sp true n 5 (List.take (Tryd.prog.cellsOf 5) (List.drop 0 [v0, v1])) = xs[0]? := hf 0 _ rfl
  rw [c_1, List.getElem?_eq_getElem (by omega)] at f0
  replace f0 : DataW.trod enc Tryd.prog W 0 sp true n 5 [v0] = some _ := f0
  have f1 : DataW.trod enc Tryd.prog W 0 sp true n 24 (List.take (Tryd.prog.cellsOf 24) (List.drop 1 [v0, v1])) = xs[1]? := hf 1 _ rfl
  rw [c_0, List.getElem?_eq_getElem (by omega)] at f1
  replace f1 : DataW.trod enc Tryd.prog W 0 sp true n 24 [v1] = some _ := f1
  obtain ⟨z0, e0, _, w0⟩ := DataW.trod_int Tryd.underlying5 f0
  obtain ⟨b0, rfl⟩ := u8_of' w0
  injection e0 with e0
  obtain ⟨l1, a1, c1, rfl, h1, m1, r1⟩ := bytes_of Tryd.underlying24 Tryd.underlying5 (by kernel_rfl) f1
  have hs := slice_small Tryd.underlying24 (by kernel_rfl) f1 (fun m hm => hw m (by
    simp only [DataW.weights, Tryd.underlying38]
    exact DataW.weights_mem_each (j := 1) (t := 24) (d := xs[1].1) rfl (by rw [List.getElem?_map, List.getElem?_eq_getElem (by omega)]; rfl) m hm))
  unfold maxLen at m1
  subst e0
  exact ⟨⟨b0, a1, c1, l1⟩, ⟨⟨rvf_none r1, h1, by show c1 ≤ _; omega⟩, hs⟩, rfl⟩
theorem act_of {r : List Value} (hr : r.length = 4) (h : DataW.trod enc Tryd.prog W 0 sp true fuel 52 r = some x) (hw : ∀ n ∈ x.1.weights Tryd.prog 52, n ≤ reachBytes) : ∃ z : ActR, (RecOK W (fun _ => False) z.r ∧ z.r.body.length ≤ 140737488351232) ∧ r = z.cells := by
  obtain ⟨v0, v1, v2, v3, rfl⟩ := len4J hr
  obtain ⟨xs, n, rfl, rfl, _, hl, hf⟩ := DataW.trod_struct Tryd.underlying52 h
  have c_0 : Tryd.prog.cellsOf 38 = 2 := by kernel_rfl
  have c_1 : Tryd.prog.cellsOf 5 = 1 := by kernel_rfl
  have l : xs.length = 3 := hl
  have f0 : DataW.trod enc Tryd.prog W 0 sp true n 5 (List.take (Tryd.prog.cellsOf 5) (List.drop 0 [v0, v1, v2, v3])) = xs[0]? := hf 0 _ rfl
  rw [c_1, List.getElem?_eq_getElem (by omega)] at f0
  replace f0 : DataW.trod enc Tryd.prog W 0 sp true n 5 [v0] = some _ := f0
  have f1 : DataW.trod enc Tryd.prog W 0 sp true n 38 (List.take (Tryd.prog.cellsOf 38) (List.drop 1 [v0, v1, v2, v3])) = xs[1]? := hf 1 _ rfl
  rw [c_0, List.getElem?_eq_getElem (by omega)] at f1
  replace f1 : DataW.trod enc Tryd.prog W 0 sp true n 38 [v1, v2] = some _ := f1
  have f2 : DataW.trod enc Tryd.prog W 0 sp true n 5 (List.take (Tryd.prog.cellsOf 5) (List.drop 3 [v0, v1, v2, v3])) = xs[2]? := hf 2 _ rfl
  rw [c_1, List.getElem?_eq_getElem (by omega)] at f2
  replace f2 : DataW.trod enc Tryd.prog W 0 sp true n 5 [v3] = some _ := f2
  obtain ⟨z0, e0, _, w0⟩ := DataW.trod_int Tryd.underlying5 f0
  obtain ⟨b0, rfl⟩ := u8_of' w0
  injection e0 with e0
  obtain ⟨z, hz, e1⟩ := rec_of rfl f1 (fun m hm => hw m (by
    simp only [DataW.weights, Tryd.underlying52]
    exact DataW.weights_mem_each (j := 1) (t := 38) (d := xs[1].1) rfl (by rw [List.getElem?_map, List.getElem?_eq_getElem (by omega)]; rfl) m hm))
  obtain ⟨z3, e3, _, w3⟩ := DataW.trod_int Tryd.underlying5 f2
  obtain ⟨b3, rfl⟩ := u8_of' w3
  injection e3 with e3
  unfold RecR.cells at e1
  injection e1 with e1 e2
  injection e2 with e2 _
  subst e0 e1 e2 e3
  exact ⟨⟨b0, z, b3⟩, hz, rfl⟩
theorem cut_of {r : List Value} (hr : r.length = 2) (h : DataW.trod enc Tryd.prog W 0 sp true fuel 60 r = some x) : ∃ (kp : List Bool) (K : Option Addr) (kc : Nat) (torn : Int), r = [.slice K kp.length kc, .int .i64 torn] ∧ RV W K (cL kp) ∧ kp.length ≤ 9223372036854775807 := by
  obtain ⟨v0, v1, rfl⟩ := len2J hr
  obtain ⟨xs, n, rfl, rfl, _, hl, hf⟩ := DataW.trod_struct Tryd.underlying60 h
  have c_0 : Tryd.prog.cellsOf 58 = 1 := by kernel_rfl
  have c_1 : Tryd.prog.cellsOf 3 = 1 := by kernel_rfl
  have l : xs.length = 2 := hl
  have f0 : DataW.trod enc Tryd.prog W 0 sp true n 58 (List.take (Tryd.prog.cellsOf 58) (List.drop 0 [v0, v1])) = xs[0]? := hf 0 _ rfl
  rw [c_0, List.getElem?_eq_getElem (by omega)] at f0
  replace f0 : DataW.trod enc Tryd.prog W 0 sp true n 58 [v0] = some _ := f0
  have f1 : DataW.trod enc Tryd.prog W 0 sp true n 3 (List.take (Tryd.prog.cellsOf 3) (List.drop 1 [v0, v1])) = xs[1]? := hf 1 _ rfl
  rw [c_1, List.getElem?_eq_getElem (by omega)] at f1
  replace f1 : DataW.trod enc Tryd.prog W 0 sp true n 3 [v1] = some _ := f1
  obtain ⟨kl, ka, kc, rfl, h1, h2, h3⟩ := bools_of Tryd.underlying58 Tryd.underlying4 (by kernel_rfl) f0
  obtain ⟨z1, e1, _, w1⟩ := DataW.trod_int Tryd.underlying3 f1
  injection e1 with e1
  subst e1
  unfold maxLen at h2
  exact ⟨kl, ka, kc, z1, rfl, h3, by omega⟩
theorem acts_of (h : DataW.trod enc Tryd.prog W 0 sp true fuel 45 [v] = some x) (hw : ∀ n ∈ x.1.weights Tryd.prog 45, n ≤ reachBytes) :
    ∃ (l : List ActR) (A : Option Addr) (cap : Nat), v = .slice A l.length cap ∧ l.length ≤ 9223372036854775807 ∧ RV W A (aC l) ∧ ∀ o ∈ l, RecOK W (fun _ => False) o.r ∧ o.r.body.length ≤ 140737488351232 := by
  obtain ⟨rows, A, cap, rfl, h1, h2, h3, _, h5⟩ := rows_ofJ Tryd.underlying45 (k := 4) (by kernel_rfl) (by omega) h
  obtain ⟨l, rfl, hl⟩ := map_ofJ ActR.cells (p := fun o => RecOK W (fun _ => False) o.r ∧ o.r.body.length ≤ 140737488351232) (vs := rows) (fun r hr => by
    obtain ⟨hlen, n, d, hd, hq⟩ := h5 r hr
    exact act_of hlen hd (fun m hm => hw m (hq m hm)))
  unfold maxLen at h2
  rw [List.length_map] at h1
  exact ⟨l, A, cap, by simp, by omega, by simpa [aC, List.flatMap] using h3, hl⟩
theorem recs_of (h : DataW.trod enc Tryd.prog W 0 sp true fuel 29 [v] = some x) (hw : ∀ n ∈ x.1.weights Tryd.prog 29, n ≤ reachBytes) :
    ∃ (l : List RecR) (A : Option Addr) (cap : Nat), v = .slice A l.length cap ∧ l.length ≤ 9223372036854775807 ∧ RV W A (rC l) ∧ ∀ o ∈ l, RecOK W (fun _ => False) o ∧ o.body.length ≤ 140737488351232 := by
  obtain ⟨rows, A, cap, rfl, h1, h2, h3, _, h5⟩ := rows_ofJ Tryd.underlying29 (k := 2) (by kernel_rfl) (by omega) h
  obtain ⟨l, rfl, hl⟩ := map_ofJ RecR.cells (p := fun o => RecOK W (fun _ => False) o ∧ o.body.length ≤ 140737488351232) (vs := rows) (fun r hr => by
    obtain ⟨hlen, n, d, hd, hq⟩ := h5 r hr
    exact rec_of hlen hd (fun m hm => hw m (hq m hm)))
  unfold maxLen at h2
  rw [List.length_map] at h1
  exact ⟨l, A, cap, by simp, by omega, by simpa [rC, List.flatMap] using h3, hl⟩
end
section
variable {H : Type} {enc : TypeId × Value → H} {W : World} {v : Value} {d : DataW H} {p : List MemPlace} {base : Nat}
set_option maxRecDepth 100000 in
theorem open_place (hv : Value.okWide Tryd.prog W .any base 23 v) (h : DataW.Trod enc Tryd.prog W 0 (fun _ => true) true 23 v d p) : ∃ P : PlaceR, v = .agg P.cells := by
  obtain ⟨cs, rfl, hsz⟩ := okWide_struct Tryd.underlying23 hv
  rw [show Tryd.prog.cellsOf 23 = 4 by kernel_rfl] at hsz
  obtain ⟨fuel, hf0⟩ := h
  obtain ⟨v0, v1, v2, v3, hcs⟩ := len4J (r := cs.toList) (by simpa using hsz)
  replace hf0 : DataW.trod enc Tryd.prog W 0 (fun _ => true) true fuel 23 cs.toList = some (d, p) := hf0
  rw [hcs] at hf0
  obtain ⟨xs, n, hd, hx, _, hl, hf⟩ := DataW.trod_struct Tryd.underlying23 hf0
  have c_0 : Tryd.prog.cellsOf 3 = 1 := by kernel_rfl
  have l : xs.length = 4 := hl
  have f0 : DataW.trod enc Tryd.prog W 0 (fun _ => true) true n 3 (List.take (Tryd.prog.cellsOf 3) (List.drop 0 [v0, v1, v2, v3])) = xs[0]? := hf 0 _ rfl
  rw [c_0, List.getElem?_eq_getElem (by omega)] at f0
  replace f0 : DataW.trod enc Tryd.prog W 0 (fun _ => true) true n 3 [v0] = some _ := f0
  have f1 : DataW.trod enc Tryd.prog W 0 (fun _ => true) true n 3 (List.take (Tryd.prog.cellsOf 3) (List.drop 1 [v0, v1, v2, v3])) = xs[1]? := hf 1 _ rfl
  rw [c_0, List.getElem?_eq_getElem (by omega)] at f1
  replace f1 : DataW.trod enc Tryd.prog W 0 (fun _ => true) true n 3 [v1] = some _ := f1
  have f2 : DataW.trod enc Tryd.prog W 0 (fun _ => true) true n 3 (List.take (Tryd.prog.cellsOf 3) (List.drop 2 [v0, v1, v2, v3])) = xs[2]? := hf 2 _ rfl
  rw [c_0, List.getElem?_eq_getElem (by omega)] at f2
  replace f2 : DataW.trod enc Tryd.prog W 0 (fun _ => true) true n 3 [v2] = some _ := f2
  have f3 : DataW.trod enc Tryd.prog W 0 (fun _ => true) true n 3 (List.take (Tryd.prog.cellsOf 3) (List.drop 3 [v0, v1, v2, v3])) = xs[3]? := hf 3 _ rfl
  rw [c_0, List.getElem?_eq_getElem (by omega)] at f3
  replace f3 : DataW.trod enc Tryd.prog W 0 (fun _ => true) true n 3 [v3] = some _ := f3
  obtain ⟨z0, e0, _, w0⟩ := DataW.trod_int Tryd.underlying3 f0
  injection e0 with e0
  obtain ⟨z1, e1, _, w1⟩ := DataW.trod_int Tryd.underlying3 f1
  injection e1 with e1
  obtain ⟨z2, e2, _, w2⟩ := DataW.trod_int Tryd.underlying3 f2
  injection e2 with e2
  obtain ⟨z3, e3, _, w3⟩ := DataW.trod_int Tryd.underlying3 f3
  injection e3 with e3
  subst e0 e1 e2 e3
  exact ⟨⟨z0, z1, z2, z3⟩, congrArg Value.agg (Array.toList_inj.1 hcs)⟩
set_option maxRecDepth 100000 in
theorem open_cut (hv : Value.okWide Tryd.prog W .any base 60 v) (h : DataW.Trod enc Tryd.prog W 0 (fun _ => true) true 60 v d p) : ∃ (kp : List Bool) (K : Option Addr) (kc : Nat) (torn : Int), v = .agg #[.slice K kp.length kc, .int .i64 torn] ∧ RV W K (cL kp) ∧ kp.length ≤ 9223372036854775807 := by
  obtain ⟨cs, rfl, hsz⟩ := okWide_struct Tryd.underlying60 hv
  rw [show Tryd.prog.cellsOf 60 = 2 by kernel_rfl] at hsz
  obtain ⟨fuel, hf0⟩ := h
  obtain ⟨kp, K, kc, torn, e, h1, h2⟩ := cut_of (r := cs.toList) (by simpa using hsz) hf0
  exact ⟨kp, K, kc, torn, congrArg Value.agg (Array.toList_inj.1 e), h1, h2⟩
set_option maxRecDepth 100000 in
theorem open_acts (hv : Value.okWide Tryd.prog W .any base 45 v) (h : DataW.Trod enc Tryd.prog W 0 (fun _ => true) true 45 v d p) (hw : ∀ n ∈ d.weights Tryd.prog 45, n ≤ reachBytes) :
    ∃ (l : List ActR) (A : Option Addr) (cap : Nat), v = .slice A l.length cap ∧ l.length ≤ 9223372036854775807 ∧ RV W A (aC l) ∧ ∀ o ∈ l, RecOK W (fun _ => False) o.r ∧ o.r.body.length ≤ 140737488351232 := by
  obtain ⟨n, hf⟩ := trod_one Tryd.underlying45 hv h
  exact acts_of hf hw
set_option maxRecDepth 100000 in
theorem open_recs (hv : Value.okWide Tryd.prog W .any base 29 v) (h : DataW.Trod enc Tryd.prog W 0 (fun _ => true) true 29 v d p) (hw : ∀ n ∈ d.weights Tryd.prog 29, n ≤ reachBytes) :
    ∃ (l : List RecR) (A : Option Addr) (cap : Nat), v = .slice A l.length cap ∧ l.length ≤ 9223372036854775807 ∧ RV W A (rC l) ∧ ∀ o ∈ l, RecOK W (fun _ => False) o ∧ o.body.length ≤ 140737488351232 := by
  obtain ⟨n, hf⟩ := trod_one Tryd.underlying29 hv h
  exact recs_of hf hw
set_option maxRecDepth 100000 in
theorem open_twice (hv : Value.okWide Tryd.prog W .any base 66 v) (h : DataW.Trod enc Tryd.prog W 0 (fun _ => true) true 66 v d p) (hw0 : ∀ n ∈ d.weights Tryd.prog 66, n ≤ reachBytes) :
    ∃ (la lb : List ActR) (A B : Option Addr) (ca cb : Nat) (k1 k2 : List Bool) (K1 K2 : Option Addr) (c1 c2 : Nat) (t1 t2 : Int), v = .agg #[.slice A la.length ca, .slice B lb.length cb, .slice K1 k1.length c1, .int .i64 t1, .slice K2 k2.length c2, .int .i64 t2] ∧
      la.length ≤ 9223372036854775807 ∧ RV W A (aC la) ∧ (∀ o ∈ la, RecOK W (fun _ => False) o.r ∧ o.r.body.length ≤ 140737488351232) ∧ lb.length ≤ 9223372036854775807 ∧ RV W B (aC lb) ∧ (∀ o ∈ lb, RecOK W (fun _ => False) o.r ∧ o.r.body.length ≤ 140737488351232) ∧
      RV W K1 (cL k1) ∧ k1.length ≤ 9223372036854775807 ∧ RV W K2 (cL k2) ∧ k2.length ≤ 9223372036854775807 := by
  obtain ⟨cs, rfl, hsz⟩ := okWide_struct Tryd.underlying66 hv
  rw [show Tryd.prog.cellsOf 66 = 6 by kernel_rfl] at hsz
  obtain ⟨fuel, hf0⟩ := h
  obtain ⟨v0, v1, v2, v3, v4, v5, hcs⟩ := len6J (r := cs.toList) (by simpa using hsz)
  replace hf0 : DataW.trod enc Tryd.prog W 0 (fun _ => true) true fuel 66 cs.toList = some (d, p) := hf0
  rw [hcs] at hf0
  obtain ⟨xs, n, hx, hd, _, hl, hf⟩ := DataW.trod_struct Tryd.underlying66 hf0
  have hw : ∀ q ∈ (DataW.agg (xs.map Prod.fst)).weights Tryd.prog 66, q ≤ reachBytes := by
    have e : d = .agg (xs.map Prod.fst) := by simp_all
    rw [← e]
    exact hw0
  have c_0 : Tryd.prog.cellsOf 45 = 1 := by kernel_rfl
  have c_1 : Tryd.prog.cellsOf 60 = 2 := by kernel_rfl
  have l : xs.length = 4 := hl
  have f0 : DataW.trod enc Tryd.prog W 0 (fun _ => true) true n 45 (List.take (Tryd.prog.cellsOf 45) (List.drop 0 [v0, v1, v2, v3, v4, v5])) = xs[0]? := hf 0 _ rfl
  rw [c_0, List.getElem?_eq_getElem (by omega)] at f0
  replace f0 : DataW.trod enc Tryd.prog W 0 (fun _ => true) true n 45 [v0] = some _ := f0
  have f1 : DataW.trod enc Tryd.prog W 0 (fun _ => true) true n 45 (List.take (Tryd.prog.cellsOf 45) (List.drop 1 [v0, v1, v2, v3, v4, v5])) = xs[1]? := hf 1 _ rfl
  rw [c_0, List.getElem?_eq_getElem (by omega)] at f1
  replace f1 : DataW.trod enc Tryd.prog W 0 (fun _ => true) true n 45 [v1] = some _ := f1
  have f2 : DataW.trod enc Tryd.prog W 0 (fun _ => true) true n 60 (List.take (Tryd.prog.cellsOf 60) (List.drop 2 [v0, v1, v2, v3, v4, v5])) = xs[2]? := hf 2 _ rfl
  rw [c_1, List.getElem?_eq_getElem (by omega)] at f2
  replace f2 : DataW.trod enc Tryd.prog W 0 (fun _ => true) true n 60 [v2, v3] = some _ := f2
  have f3 : DataW.trod enc Tryd.prog W 0 (fun _ => true) true n 60 (List.take (Tryd.prog.cellsOf 60) (List.drop 4 [v0, v1, v2, v3, v4, v5])) = xs[3]? := hf 3 _ rfl
  rw [c_1, List.getElem?_eq_getElem (by omega)] at f3
  replace f3 : DataW.trod enc Tryd.prog W 0 (fun _ => true) true n 60 [v4, v5] = some _ := f3
  obtain ⟨la, A, ca, rfl, p1, p2, p3⟩ := acts_of f0 (fun m hm => hw m (by
    simp only [DataW.weights, Tryd.underlying66]
    exact DataW.weights_mem_each (j := 0) (t := 45) (d := xs[0].1) rfl (by rw [List.getElem?_map, List.getElem?_eq_getElem (by omega)]; rfl) m hm))
  obtain ⟨lb, B, cb, rfl, p4, p5, p6⟩ := acts_of f1 (fun m hm => hw m (by
    simp only [DataW.weights, Tryd.underlying66]
    exact DataW.weights_mem_each (j := 1) (t := 45) (d := xs[1].1) rfl (by rw [List.getElem?_map, List.getElem?_eq_getElem (by omega)]; rfl) m hm))
  obtain ⟨k1, K1, c1, t1, e1, p7, p8⟩ := cut_of rfl f2
  obtain ⟨k2, K2, c2, t2, e2, p9, p10⟩ := cut_of rfl f3
  injection e1 with e1 e1'
  injection e1' with e1' _
  injection e2 with e2 e2'
  injection e2' with e2' _
  subst e1 e1' e2 e2'
  exact ⟨la, lb, A, B, ca, cb, k1, k2, K1, K2, c1, c2, t1, t2, congrArg Value.agg (Array.toList_inj.1 hcs), p1, p2, p3, p4, p5, p6, p7, p8, p9, p10⟩
end
end Go.Proofs.YtpojlchikaffhaaDoor
