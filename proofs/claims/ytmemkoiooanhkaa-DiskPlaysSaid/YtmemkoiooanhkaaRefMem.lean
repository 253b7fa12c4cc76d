/-
  How the document's disk lies in memory: a value of four fields, two rows of writes, the bytes of each.
-/
import Derived.Test.YtmemkoiooanhkaaDiskLawA
namespace Go.Proofs.Ytmemkoiooanhkaa
open Go.RowKit DiskP

/-- A write, as its three cells say it. -/
structure WR where
  n : Int
  A : Option Addr
  len : Nat
  cap : Nat
  rot : Bool
def WR.cells (r : WR) : List Value := [.int .i64 r.n, .slice r.A r.len r.cap, .bool r.rot]
def rC (l : List WR) : List Value := l.flatMap WR.cells
theorem rC_len (l : List WR) : (rC l).length = l.length * 3 := by
  unfold rC
  induction l with
  | nil => rfl
  | cons r l ih => simp only [List.flatMap_cons, List.length_append, ih]; simp [WR.cells]; omega
theorem rC_append (a b : List WR) : rC (a ++ b) = rC a ++ rC b := by simp [rC]
theorem rC_cons (r : WR) (b : List WR) : rC (r :: b) = r.cells ++ rC b := by simp [rC]
theorem rC_get (l : List WR) (i k : Nat) (hk : k < 3) : (rC l)[i * 3 + k]? = (l[i]?).bind (·.cells[k]?) := by
  induction l generalizing i with
  | nil => simp [rC]
  | cons r l ih =>
    rw [rC_cons]
    cases i with
    | zero => rw [List.getElem?_append_left (by simp [WR.cells]; omega)]; simp
    | succ i =>
      rw [List.getElem?_append_right (by simp [WR.cells]; omega)]
      have e : (i + 1) * 3 + k - r.cells.length = i * 3 + k := by simp [WR.cells]; omega
      rw [e, ih]
      simp
theorem rC_one (l : List WR) : ∀ u ∈ rC l, u.oneCell' = true := by
  intro u hu
  simp only [rC, List.mem_flatMap, WR.cells] at hu
  obtain ⟨r, _, hu⟩ := hu
  simp at hu
  rcases hu with rfl | rfl | rfl <;> rfl
theorem rC_set (l : List WR) (i : Nat) (r : WR) (hi : i < l.length) : (((rC l).set (i * 3) (.int .i64 r.n)).set (i * 3 + 1) (.slice r.A r.len r.cap)).set (i * 3 + 2) (.bool r.rot) = rC (l.set i r) := by
  induction l generalizing i with
  | nil => simp at hi
  | cons q l ih =>
    rw [rC_cons]
    cases i with
    | zero => simp [rC_cons, WR.cells]
    | succ i =>
      rw [List.set_cons_succ, rC_cons, ← ih i (by simpa using hi)]
      have hq : q.cells.length = 3 := rfl
      rw [List.set_append_right _ _ (by omega), List.set_append_right _ _ (by omega), List.set_append_right _ _ (by omega), hq]
      rw [show (i + 1) * 3 - 3 = i * 3 by omega, show (i + 1) * 3 + 1 - 3 = i * 3 + 1 by omega, show (i + 1) * 3 + 2 - 3 = i * 3 + 2 by omega]
/-- What a write is worth. -/
def WrOK (w : World) (F : Nat → Prop) (size : Nat) (r : WR) (s : Sect) : Prop :=
  r.rot = s.rot ∧ match s.bytes with
    | none => r.A = none ∧ r.len = 0 ∧ r.cap = 0
    | some l => l.length = size ∧ r.len = size ∧ RVF w F r.A (cB l)
theorem WrOK.kept {w w' : World} {F : Nat → Prop} {size : Nat} {r : WR} {s : Sect} (h : WrOK w F size r s) (hk : Kept F w w') : WrOK w' F size r s := by
  unfold WrOK at h ⊢
  refine ⟨h.1, ?_⟩
  have h2 := h.2
  revert h2
  cases s.bytes with
  | none => exact id
  | some l => exact fun ⟨a, b, c⟩ => ⟨a, b, c.kept hk⟩
theorem WrOK.mono {w : World} {F G : Nat → Prop} {size : Nat} {r : WR} {s : Sect} (h : WrOK w F size r s) (hG : ∀ k, k < w.heap.size → G k → F k) : WrOK w G size r s := by
  unfold WrOK at h ⊢
  refine ⟨h.1, ?_⟩
  have h2 := h.2
  revert h2
  cases s.bytes with
  | none => exact id
  | some l => exact fun ⟨a, b, c⟩ => ⟨a, b, c.mono hG⟩
/-- Rows of writes. -/
structure Ref where
  AL : Option Addr
  kL : Nat
  L : List WR
  AW : Option Addr
  kW : Nat
  W : List WR
def Ref.val (m : Ref) (size : Nat) (off : Bool) : Value := .agg #[.int .i64 (size : Int), .slice m.AL m.L.length m.kL, .slice m.AW m.W.length m.kW, .bool off]
structure LastOK (w : World) (F : Nat → Prop) (size : Nat) (L : List WR) (S : List Sect) : Prop where
  len : L.length = S.length
  at_ : ∀ (i : Nat) (r : WR) (s : Sect), L[i]? = some r → S[i]? = some s → WrOK w F size r s
structure WaitOK (w : World) (F : Nat → Prop) (size : Nat) (W : List WR) (S : List (Nat × Sect)) : Prop where
  len : W.length = S.length
  at_ : ∀ (i : Nat) (r : WR) (x : Nat × Sect), W[i]? = some r → S[i]? = some x → r.n = (x.1 : Int) ∧ WrOK w F size r x.2
structure RefOK (w : World) (F : Nat → Prop) (m : Ref) (d : Dsk) : Prop where
  lr : RVF w F m.AL (rC m.L)
  wr : RVF w F m.AW (rC m.W)
  lo : LastOK w F d.size m.L d.last
  wo : WaitOK w F d.size m.W d.wait
  s1 : 16 ≤ d.size
  s2 : d.size ≤ 4096
  l1 : 1 ≤ d.last.length
  l2 : d.last.length ≤ 65536
  ww : ∀ x ∈ d.wait, x.1 < d.last.length
section
variable {w w' : World} {F G : Nat → Prop} {size : Nat}
theorem LastOK.kept {L : List WR} {S : List Sect} (h : LastOK w F size L S) (hk : Kept F w w') : LastOK w' F size L S := ⟨h.len, fun i r s a b => (h.at_ i r s a b).kept hk⟩
theorem WaitOK.kept {W : List WR} {S : List (Nat × Sect)} (h : WaitOK w F size W S) (hk : Kept F w w') : WaitOK w' F size W S := ⟨h.len, fun i r s a b => ⟨(h.at_ i r s a b).1, (h.at_ i r s a b).2.kept hk⟩⟩
theorem LastOK.mono {L : List WR} {S : List Sect} (h : LastOK w F size L S) (hG : ∀ k, k < w.heap.size → G k → F k) : LastOK w G size L S := ⟨h.len, fun i r s a b => (h.at_ i r s a b).mono hG⟩
theorem WaitOK.mono {W : List WR} {S : List (Nat × Sect)} (h : WaitOK w F size W S) (hG : ∀ k, k < w.heap.size → G k → F k) : WaitOK w G size W S := ⟨h.len, fun i r s a b => ⟨(h.at_ i r s a b).1, (h.at_ i r s a b).2.mono hG⟩⟩
theorem RefOK.kept {m : Ref} {d : Dsk} (h : RefOK w F m d) (hk : Kept F w w') : RefOK w' F m d := { h with lr := h.lr.kept hk, wr := h.wr.kept hk, lo := h.lo.kept hk, wo := h.wo.kept hk }
theorem RefOK.mono {m : Ref} {d : Dsk} (h : RefOK w F m d) (hG : ∀ k, k < w.heap.size → G k → F k) : RefOK w G m d := { h with lr := h.lr.mono hG, wr := h.wr.mono hG, lo := h.lo.mono hG, wo := h.wo.mono hG }
theorem RefOK.below {m : Ref} {d : Dsk} (h : RefOK w F m d) (hb : Below w.heap.size w w') : RefOK w' F m d := h.kept (Kept.of_below hb F)
theorem LastOK.below {L : List WR} {S : List Sect} (h : LastOK w F size L S) (hb : Below w.heap.size w w') : LastOK w' F size L S := h.kept (Kept.of_below hb F)
theorem WaitOK.below {W : List WR} {S : List (Nat × Sect)} (h : WaitOK w F size W S) (hb : Below w.heap.size w w') : WaitOK w' F size W S := h.kept (Kept.of_below hb F)
theorem WrOK.below {r : WR} {s : Sect} (h : WrOK w F size r s) (hb : Below w.heap.size w w') : WrOK w' F size r s := h.kept (Kept.of_below hb F)
theorem LastOK.set {L : List WR} {S : List Sect} (h : LastOK w F size L S) (i : Nat) {r : WR} {s : Sect} (hr : WrOK w F size r s) : LastOK w F size (L.set i r) (S.set i s) := by
  refine ⟨by simp [h.len], fun j q t hq ht => ?_⟩
  rw [List.getElem?_set] at hq ht
  by_cases hij : i = j
  · rw [if_pos hij] at hq ht
    split at hq
    · split at ht
      · injection hq with hq; injection ht with ht; subst hq; subst ht; exact hr
      · cases ht
    · cases hq
  · rw [if_neg hij] at hq ht
    exact h.at_ j q t hq ht
theorem WaitOK.snoc {W : List WR} {S : List (Nat × Sect)} (h : WaitOK w F size W S) {r : WR} {x : Nat × Sect} (hn : r.n = (x.1 : Int)) (hr : WrOK w F size r x.2) : WaitOK w F size (W ++ [r]) (S ++ [x]) := by
  refine ⟨by simp [h.len], fun j q t hq ht => ?_⟩
  by_cases hj : j < W.length
  · rw [List.getElem?_append_left hj] at hq
    rw [List.getElem?_append_left (by rw [← h.len]; exact hj)] at ht
    exact h.at_ j q t hq ht
  · rw [List.getElem?_append_right (by omega)] at hq
    rw [List.getElem?_append_right (by rw [← h.len]; omega), ← h.len] at ht
    have : j - W.length = 0 := by
      rcases Nat.eq_zero_or_pos (j - W.length) with h | h
      · exact h
      · rw [List.getElem?_eq_none (by simp; omega)] at hq; cases hq
    rw [this] at hq ht
    simp at hq ht
    subst hq; subst ht
    exact ⟨hn, hr⟩
theorem WaitOK.nil : WaitOK w F size [] [] := ⟨rfl, fun i r x h => by simp at h⟩
/-- What is owned is apart. -/
theorem RVF.of_own {base : Nat} {e : TypeId} {size n : Nat} {xs : List Value} {A : Option Addr} {c : Nat} (h : w.ownsRow base e size (.slice A n c) n xs) (hF : ∀ k, F k → k < base) : RVF w F A xs := by
  intro hne
  rcases h.2 with ⟨hv, h0⟩ | ⟨g, cap, cur, hv, hg, hh, hnc, _⟩
  · have := h.1
    subst h0
    exact absurd (List.eq_nil_of_length_eq_zero (by omega)) hne
  · injection hv with hA
    subst hA
    refine ⟨g, 0, rfl, lt_of_block hh, fun hf => by have := hF g hf; omega, fun j u hu => ?_⟩
    have := h.cells (g := g) rfl j u hu
    rw [add_zero_off] at this
    rwa [Nat.zero_add]
end
theorem info_rw : (Try.prog.info? 70).map (fun i => (i.zero, i.size, i.bytes)) = some (some (.agg #[.int .i64 0, .slice none 0 0, .bool false]), 3, 40) := by kernel_rfl
theorem el_rw : El Try.prog 49 70 (.agg #[.int .i64 0, .slice none 0 0, .bool false]) 3 40 := ⟨info_parts info_rw, Try.underlying49, rfl, by decide⟩

theorem ron_calls (m : Ref) (d : Dsk) (F : Nat → Prop) (w : World) (h : RefOK w F m d) :
    Calls Try.prog 27 #[m.val d.size d.off] w fun e w' => e = .returned (m.val d.on.size d.on.off) ∧ RefOK w' F m d.on ∧ Below w.heap.size w w' := by
  have hb : ∀ o o' : Obj, Below w.heap.size w ((w.alloc o).alloc o') := fun o o' => ((Below.refl _ _).alloc (Nat.le_refl _) _).alloc (by simp) _
  have h' : RefOK w F m d.on := { h with }
  have H := Lib.hid h'
  clear h' h
  go_enter Try.func27, Try.ntmps27
  unfold Ref.val
  go_wp2
  refine bodyPost_ret (v := m.val d.size false) (by simp [results, Try.results27, go_sem, Ref.val]) rfl ⟨rfl, H.out.below (hb _ _), hb _ _⟩
end Go.Proofs.Ytmemkoiooanhkaa
