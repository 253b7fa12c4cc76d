/-
  What a log tells, in plain Lean: the greatest number; later questions; forgetting.
-/
import Derived.Test.YtdcjljlppeighaaDoorPurgeRefLast
namespace Go.Proofs.YtdcjljlppeighaaDoor.PurgeP

theorem PLog.OK.no_gt {l : PLog} (h : l.OK) {x : Ln} (hx : x ∈ l.ls) : l.floor < x.no ∧ 1 ≤ x.no := by
  obtain ⟨i, hi, rfl⟩ := List.getElem_of_mem hx
  have := h.no i _ (List.getElem?_eq_getElem hi)
  have := h.f0
  omega
theorem under_le {f b u : Int} (h : 0 ≤ f) : under f b u ≤ f := by
  unfold under
  split <;> omega
theorem lastG_take {l : PLog} (h : l.OK) (b u : Int) (p : Ln → Bool) (n : Int) (hn : n ≤ l.floor) : ∀ k, k ≤ l.ls.length → n ≤ lastG (l.ls.take k) b u p n ∧ ∀ i, i < k → ∀ x, l.ls[i]? = some x → b < x.no → x.no ≤ u → p x = true → x.no ≤ lastG (l.ls.take k) b u p n := by
  intro k
  induction k with
  | zero => intro _; exact ⟨Int.le_refl _, fun i hi => by omega⟩
  | succ k ih =>
    intro hk
    obtain ⟨h1, h2⟩ := ih (by omega)
    obtain ⟨z, hz⟩ : ∃ z, l.ls[k]? = some z := ⟨_, List.getElem?_eq_getElem (by omega)⟩
    have hzn := h.no k z hz
    rw [scan_snoc hz]
    by_cases hm : b < z.no ∧ z.no ≤ u ∧ p z = true
    · rw [if_pos hm]
      refine ⟨by omega, fun i hi x hx _ _ _ => ?_⟩
      have := h.no i x hx
      omega
    · rw [if_neg hm]
      refine ⟨h1, fun i hi x hx g1 g2 g3 => ?_⟩
      by_cases e : i = k
      · subst e
        rw [hz] at hx
        injection hx with hx
        subst hx
        exact absurd ⟨g1, g2, g3⟩ hm
      · exact h2 i (by omega) x hx g1 g2 g3
theorem new_under {l : PLog} (h : l.OK) (b u : Int) (p : Ln → Bool) : under l.floor b u ≤ l.newest b u p := by
  have := (lastG_take h b u p _ (under_le (b := b) (u := u) h.f0) l.ls.length (Nat.le_refl _)).1
  rwa [List.take_length] at this
theorem new_line {l : PLog} (h : l.OK) {b u : Int} {p : Ln → Bool} {x : Ln} (hx : x ∈ l.ls) (g1 : b < x.no) (g2 : x.no ≤ u) (g3 : p x = true) : x.no ≤ l.newest b u p := by
  obtain ⟨i, hi, rfl⟩ := List.getElem_of_mem hx
  have := (lastG_take h b u p _ (under_le (b := b) (u := u) h.f0) l.ls.length (Nat.le_refl _)).2 i hi _ (List.getElem?_eq_getElem hi) g1 g2 g3
  rwa [List.take_length] at this
theorem new_cases (l : PLog) (b u : Int) (p : Ln → Bool) : l.newest b u p = under l.floor b u ∨ ∃ x ∈ l.ls, b < x.no ∧ x.no ≤ u ∧ p x = true ∧ l.newest b u p = x.no := lastG_mem _ _ _ _ _
theorem new_nn {l : PLog} (h : l.OK) (b u : Int) (p : Ln → Bool) : 0 ≤ l.newest b u p := Int.le_trans (under_nn _ _ _) (new_under h b u p)
theorem last_new (l : PLog) (keys : List Txt) (b u : Int) (hd : Bool) : l.last keys b u hd = l.newest b u (meant keys hd) := rfl
theorem later_up {l : PLog} (h : l.OK) (keys : List Txt) (hd : Bool) {b u u' : Int} (hu : u ≤ u') : l.last keys b u hd ≤ l.last keys b u' hd := by
  rw [last_new, last_new]
  rcases new_cases l b u (meant keys hd) with e | ⟨x, hx, g1, g2, g3, e⟩
  · rw [e]
    refine Int.le_trans ?_ (new_under h b u' _)
    unfold under
    split
    · split
      · omega
      · rename_i h1; omega
    · rename_i h1
      rw [if_neg (by omega)]
      omega
  · rw [e]
    exact new_line h hx g1 (by omega) g3
theorem soft_more {l : PLog} (h : l.OK) (keys : List Txt) (b u : Int) : l.last keys b u true ≤ l.last keys b u false := by
  rw [last_new, last_new]
  rcases new_cases l b u (meant keys true) with e | ⟨x, hx, g1, g2, g3, e⟩
  · rw [e]; exact new_under h b u _
  · rw [e]
    refine new_line h hx g1 g2 ?_
    unfold meant at g3 ⊢
    rw [Bool.and_eq_true] at g3
    rw [g3.2]
    simp
theorem later_down {l : PLog} (h : l.OK) (keys : List Txt) (hd : Bool) {b b' u : Int} (hb : b ≤ b') : l.last keys b' u hd = 0 ∨ l.last keys b' u hd = l.last keys b u hd := by
  rw [last_new, last_new]
  have hf := h.f0
  rcases new_cases l b' u (meant keys hd) with e | ⟨x, hx, g1, g2, g3, e⟩
  · rw [e]
    by_cases h0 : under l.floor b' u = 0
    · exact .inl h0
    · right
      have h1 : under l.floor b' u = min u l.floor ∧ b' < min u l.floor ∧ 1 ≤ min u l.floor := by
        unfold under at h0 ⊢
        split at h0
        · exact absurd rfl h0
        · rename_i h2
          rw [if_neg h2]
          omega
      have h2 : under l.floor b u = min u l.floor := by unfold under; rw [if_neg (by omega)]
      rcases new_cases l b u (meant keys hd) with e2 | ⟨y, hy, k1, k2, k3, e2⟩
      · rw [e2, h1.1, h2]
      · exfalso
        have hyf := (h.no_gt hy).1
        have := new_line h (b := b') hy (by omega) k2 k3
        rw [e] at this
        omega
  · right
    have h1 := new_line h (b := b) hx (by omega) g2 g3
    have hxf := (h.no_gt hx).1
    have hul := under_le (b := b) (u := u) hf
    rcases new_cases l b u (meant keys hd) with e2 | ⟨y, hy, k1, k2, k3, e2⟩
    · omega
    · have := new_line h (b := b') hy (by omega) k2 k3
      omega
theorem hard_any {l : PLog} (h : l.OK) (keys : List Txt) (b u : Int) : l.last keys b u true = 0 ∨ l.any b u = true := by
  by_cases h0 : l.last keys b u true = 0
  · exact .inl h0
  · right
    have hnn := new_nn h b u (meant keys true)
    rw [last_new] at h0
    unfold PLog.any
    refine decide_eq_true ?_
    rcases new_cases l b u (meant keys true) with e | ⟨x, hx, g1, g2, g3, e⟩
    · have := new_under h b u (fun x => x.hard)
      omega
    · have := (h.no_gt hx).2
      have := new_line h (p := fun x => x.hard) hx g1 g2 (by unfold meant at g3; rw [Bool.and_eq_true] at g3; simpa using g3.1)
      omega
theorem for_floor {l : PLog} (_h : l.OK) {n : Int} (h0 : 0 ≤ n) (h1 : n ≤ l.now) : l.forE n = 0 ∧ (l.forS n).floor = max l.floor n ∧ (l.forS n).now = l.now := by
  unfold PLog.forE PLog.forS
  rw [if_neg (by omega), if_neg (by omega)]
  refine ⟨rfl, ?_, ?_⟩
  · split
    · show n = _; omega
    · omega
  · split
    · unfold PLog.now at h1 ⊢
      simp only [List.length_drop]
      omega
    · rfl
theorem for_new {l : PLog} (h : l.OK) {n : Int} (h0 : 0 ≤ n) (h1 : n ≤ l.now) {b : Int} (hb : max l.floor n ≤ b) (u : Int) (p : Ln → Bool) : (l.forS n).newest b u p = l.newest b u p := by
  have hf := h.f0
  unfold PLog.forS
  rw [if_neg (by omega)]
  by_cases hn : l.floor < n
  · rw [if_pos hn]
    unfold PLog.newest
    have e1 : under n b u = 0 := by unfold under; rw [if_pos (by omega)]
    have e2 : under l.floor b u = 0 := by unfold under; rw [if_pos (by omega)]
    show lastG (l.ls.drop (n - l.floor).toNat) b u p (under n b u) = lastG l.ls b u p (under l.floor b u)
    rw [e1, e2]
    conv => rhs; rw [← List.take_append_drop (n - l.floor).toNat l.ls]
    rw [lastG_append, lastG_none (l.ls.take (n - l.floor).toNat)]
    intro x hx
    obtain ⟨i, hi, rfl⟩ := List.getElem_of_mem hx
    rw [List.length_take] at hi
    rw [List.getElem_take]
    have := h.no i _ (List.getElem?_eq_getElem (by omega))
    omega
  · rw [if_neg hn]
theorem for_last {l : PLog} (h : l.OK) {n : Int} (h0 : 0 ≤ n) (h1 : n ≤ l.now) {b : Int} (hb : max l.floor n ≤ b) (u : Int) (keys : List Txt) (hd : Bool) : (l.forS n).last keys b u hd = l.last keys b u hd := for_new h h0 h1 hb u _
theorem for_any {l : PLog} (h : l.OK) {n : Int} (h0 : 0 ≤ n) (h1 : n ≤ l.now) {b : Int} (hb : max l.floor n ≤ b) (u : Int) : (l.forS n).any b u = l.any b u := by
  unfold PLog.any
  rw [for_new h h0 h1 hb]
theorem low_all {l : PLog} (h : l.OK) {b u : Int} (hb : b < l.floor) (hu : b < u) (h1 : 1 ≤ u) (hf : 1 ≤ l.floor) (keys : List Txt) (hd : Bool) : min u l.floor ≤ l.last keys b u hd ∧ l.any b u = true := by
  have e : under l.floor b u = min u l.floor := by unfold under; rw [if_neg (by omega)]
  have h2 := new_under h b u (meant keys hd)
  have h3 := new_under h b u (fun x => x.hard)
  refine ⟨by rw [last_new]; omega, ?_⟩
  unfold PLog.any
  exact decide_eq_true (by omega)
theorem run_ok' {l : PLog} (h : l.OK) {keys : List Txt} {hard : Bool} : (l.addS keys hard).OK := h.add keys hard
end Go.Proofs.YtdcjljlppeighaaDoor.PurgeP
