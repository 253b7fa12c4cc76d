/-
  A log of purges in plain Lean: what it holds, what it tells.
-/
import Derived.WalkKit
namespace Go.Proofs.YtdcjljlppeighaaDoor.PurgeP

abbrev Txt := List UInt8
/-- A purge. -/
structure Ln where
  no : Int
  keys : List Txt
  hard : Bool
/-- May a text be a key? -/
def keyC (c : UInt8) : Bool := decide (33 ≤ c.toNat) && decide (c.toNat ≤ 126)
def keyB (s : Txt) : Bool := decide (1 ≤ s.length) && decide (s.length ≤ 200) && s.all keyC
/-- Is a text in a list? -/
def hasB (ks : List Txt) (s : Txt) : Bool := ks.contains s
/-- Are the first k keys right ones, and no two alike? -/
def goodK (ks : List Txt) (k : Nat) : Bool := (List.range k).all fun i => keyB (ks.getD i []) && !hasB (ks.take i) (ks.getD i [])
theorem goodK_zero (ks : List Txt) : goodK ks 0 = true := rfl
theorem goodK_succ (ks : List Txt) (k : Nat) : goodK ks (k + 1) = (goodK ks k && (keyB (ks.getD k []) && !hasB (ks.take k) (ks.getD k []))) := by
  unfold goodK
  rw [List.range_succ, List.all_append]
  simp
theorem goodK_not (ks : List Txt) (k n : Nat) (h : goodK ks k = false) (hn : k ≤ n) : goodK ks n = false := by
  induction n with
  | zero => obtain rfl : k = 0 := by omega
            exact h
  | succ n ih =>
    by_cases e : k = n + 1
    · subst e; exact h
    · rw [goodK_succ, ih (by omega)]; rfl
def numB (x : Ln) : Bool := decide (1 ≤ x.no) && decide (x.no ≤ 1099511627776) && decide (1 ≤ x.keys.length) && decide (x.keys.length ≤ 34)
def rightB (x : Ln) : Bool := numB x && goodK x.keys x.keys.length
theorem numB_iff (x : Ln) : numB x = true ↔ 1 ≤ x.no ∧ x.no ≤ 1099511627776 ∧ 1 ≤ x.keys.length ∧ x.keys.length ≤ 34 := by
  unfold numB
  simp only [Bool.and_eq_true, decide_eq_true_eq]
  omega
theorem right_iff (x : Ln) : rightB x = true ↔ (1 ≤ x.no ∧ x.no ≤ 1099511627776 ∧ 1 ≤ x.keys.length ∧ x.keys.length ≤ 34) ∧ goodK x.keys x.keys.length = true := by
  unfold rightB
  rw [Bool.and_eq_true, numB_iff]
theorem good_key (ks : List Txt) (n : Nat) (h : goodK ks n = true) : ∀ i, i < n → keyB (ks.getD i []) = true ∧ hasB (ks.take i) (ks.getD i []) = false := by
  intro i hi
  unfold goodK at h
  rw [List.all_eq_true] at h
  have := h i (List.mem_range.2 hi)
  simpa [Bool.and_eq_true] using this
theorem right_key {x : Ln} (h : rightB x = true) : ∀ k ∈ x.keys, keyB k = true := by
  intro k hk
  obtain ⟨_, hg⟩ := (right_iff x).1 h
  obtain ⟨i, hi, rfl⟩ := List.getElem_of_mem hk
  have := (good_key _ _ hg i hi).1
  rwa [List.getD_eq_getElem?_getD, List.getElem?_eq_getElem hi] at this
theorem key_len {k : Txt} (h : keyB k = true) : 1 ≤ k.length ∧ k.length ≤ 200 ∧ ∀ c ∈ k, 33 ≤ c.toNat ∧ c.toNat ≤ 126 := by
  unfold keyB at h
  simp only [Bool.and_eq_true, decide_eq_true_eq, List.all_eq_true] at h
  refine ⟨h.1.1, h.1.2, fun c hc => ?_⟩
  have := h.2 c hc
  unfold keyC at this
  simpa [Bool.and_eq_true] using this
/-- A log. -/
structure PLog where
  floor : Int
  ls : List Ln
def PLog.now (l : PLog) : Int := l.floor + l.ls.length
def PLog.new : PLog := ⟨0, []⟩
def PLog.nextL (l : PLog) (keys : List Txt) (hard : Bool) : Ln := ⟨l.now + 1, keys, hard⟩
def PLog.addN (l : PLog) (keys : List Txt) (hard : Bool) : Int := if rightB (l.nextL keys hard) then l.now + 1 else 0
def PLog.addE (l : PLog) (keys : List Txt) (hard : Bool) : Int := if rightB (l.nextL keys hard) then 0 else 1
def PLog.addS (l : PLog) (keys : List Txt) (hard : Bool) : PLog := if rightB (l.nextL keys hard) then ⟨l.floor, l.ls ++ [l.nextL keys hard]⟩ else l
def PLog.forE (l : PLog) (upTo : Int) : Int := if upTo < 0 ∨ l.now < upTo then 1 else 0
def PLog.forS (l : PLog) (upTo : Int) : PLog := if upTo < 0 ∨ l.now < upTo then l else if l.floor < upTo then ⟨upTo, l.ls.drop (upTo - l.floor).toNat⟩ else l
/-- The numbers go on one by one; a floor is one that may be. -/
structure PLog.OK (l : PLog) : Prop where
  f0 : 0 ≤ l.floor
  f1 : l.floor ≤ 1099511627776
  no : ∀ (i : Nat) (x : Ln), l.ls[i]? = some x → x.no = l.floor + i + 1
  rt : ∀ x ∈ l.ls, rightB x = true
theorem PLog.OK.now_le {l : PLog} (h : l.OK) : 0 ≤ l.now ∧ l.now ≤ 1099511627776 ∧ l.floor ≤ l.now ∧ (l.ls.length : Int) ≤ 1099511627776 := by
  have h0 := h.f0
  have h1 := h.f1
  unfold PLog.now
  by_cases e : l.ls.length = 0
  · rw [e]; omega
  · have hlt : l.ls.length - 1 < l.ls.length := by omega
    have hx := List.getElem?_eq_getElem hlt
    have hn := h.no _ _ hx
    have hr := ((right_iff _).1 (h.rt _ (List.mem_of_getElem? hx))).1
    omega
theorem PLog.OK.new : PLog.new.OK := ⟨by decide, by decide, fun i x h => by simp [PLog.new] at h, fun x h => by simp [PLog.new] at h⟩
theorem PLog.OK.add {l : PLog} (h : l.OK) (keys : List Txt) (hard : Bool) : (l.addS keys hard).OK := by
  unfold PLog.addS
  split
  · rename_i hr
    refine ⟨h.f0, h.f1, fun i x hx => ?_, fun x hx => ?_⟩
    · simp only at hx ⊢
      by_cases hi : i < l.ls.length
      · rw [List.getElem?_append_left hi] at hx
        exact h.no i x hx
      · rw [List.getElem?_append_right (by omega)] at hx
        have : i - l.ls.length = 0 := by
          have := (List.getElem?_eq_some_iff.1 hx).1
          simp at this
          omega
        rw [this] at hx
        simp at hx
        subst hx
        show l.now + 1 = _
        unfold PLog.now
        omega
    · simp only [List.mem_append, List.mem_singleton] at hx
      rcases hx with hx | rfl
      · exact h.rt x hx
      · exact hr
  · exact h
theorem PLog.OK.forget {l : PLog} (h : l.OK) (upTo : Int) : (l.forS upTo).OK := by
  have hn := h.now_le
  unfold PLog.forS
  split
  · exact h
  · split
    · rename_i h1 h2
      refine ⟨by have := h.f0; simp only; omega, by simp only; omega, fun i x hx => ?_, fun x hx => h.rt x (List.mem_of_mem_drop hx)⟩
      simp only at hx ⊢
      rw [List.getElem?_drop] at hx
      have := h.no _ x hx
      omega
    · exact h
/-- The greatest number in a span of those up to the floor. -/
def under (floor behind upTo : Int) : Int := if min upTo floor ≤ behind ∨ min upTo floor < 1 then 0 else min upTo floor
def lastG (ls : List Ln) (behind upTo : Int) (p : Ln → Bool) (n : Int) : Int := ls.foldl (fun n x => if behind < x.no ∧ x.no ≤ upTo ∧ p x = true then x.no else n) n
theorem lastG_nil (behind upTo : Int) (p : Ln → Bool) (n : Int) : lastG [] behind upTo p n = n := rfl
theorem lastG_snoc (ls : List Ln) (x : Ln) (behind upTo : Int) (p : Ln → Bool) (n : Int) : lastG (ls ++ [x]) behind upTo p n = if behind < x.no ∧ x.no ≤ upTo ∧ p x = true then x.no else lastG ls behind upTo p n := by
  unfold lastG
  rw [List.foldl_append]
  rfl
theorem lastG_none (ls : List Ln) (behind upTo : Int) (p : Ln → Bool) (n : Int) (h : ∀ x ∈ ls, ¬ (behind < x.no ∧ x.no ≤ upTo ∧ p x = true)) : lastG ls behind upTo p n = n := by
  induction ls generalizing n with
  | nil => rfl
  | cons x ls ih =>
    unfold lastG
    rw [List.foldl_cons, if_neg (h x (by simp))]
    exact ih n (fun y hy => h y (by simp [hy]))
theorem lastG_cons (x : Ln) (ls : List Ln) (behind upTo : Int) (p : Ln → Bool) (n : Int) : lastG (x :: ls) behind upTo p n = lastG ls behind upTo p (if behind < x.no ∧ x.no ≤ upTo ∧ p x = true then x.no else n) := rfl
theorem lastG_append (a b : List Ln) (behind upTo : Int) (p : Ln → Bool) (n : Int) : lastG (a ++ b) behind upTo p n = lastG b behind upTo p (lastG a behind upTo p n) := List.foldl_append
/-- What the last is: the beginning, or one that is meant. -/
theorem lastG_mem (ls : List Ln) (behind upTo : Int) (p : Ln → Bool) (n : Int) : lastG ls behind upTo p n = n ∨ ∃ x ∈ ls, behind < x.no ∧ x.no ≤ upTo ∧ p x = true ∧ lastG ls behind upTo p n = x.no := by
  induction ls generalizing n with
  | nil => exact .inl rfl
  | cons x ls ih =>
    rw [lastG_cons]
    by_cases h : behind < x.no ∧ x.no ≤ upTo ∧ p x = true
    · rw [if_pos h]
      rcases ih x.no with e | ⟨y, hy, h1, h2, h3, e⟩
      · exact .inr ⟨x, by simp, h.1, h.2.1, h.2.2, e⟩
      · exact .inr ⟨y, by simp [hy], h1, h2, h3, e⟩
    · rw [if_neg h]
      rcases ih n with e | ⟨y, hy, h1, h2, h3, e⟩
      · exact .inl e
      · exact .inr ⟨y, by simp [hy], h1, h2, h3, e⟩
def hits (x : Ln) (keys : List Txt) : Bool := x.keys.any fun k => hasB keys k
def meant (keys : List Txt) (hard : Bool) (x : Ln) : Bool := (x.hard || !hard) && hits x keys
def PLog.last (l : PLog) (keys : List Txt) (behind upTo : Int) (hard : Bool) : Int := lastG l.ls behind upTo (meant keys hard) (under l.floor behind upTo)
def PLog.newest (l : PLog) (behind upTo : Int) (p : Ln → Bool) : Int := lastG l.ls behind upTo p (under l.floor behind upTo)
def PLog.any (l : PLog) (behind upTo : Int) : Bool := decide (0 < l.newest behind upTo (fun x => x.hard))
end Go.Proofs.YtdcjljlppeighaaDoor.PurgeP
