/-
  Texts of purges in plain Lean: cut at blanks; a line's text is read back, by the program's way and by the document's.
-/
import Derived.Test.YtdcjljlppeighaaDoorPurgeStd
import Derived.Test.YtdcjljlppeighaaDoorSpanDigits
import Derived.Lib.SplitLaws
namespace Go.Proofs.YtdcjljlppeighaaDoor
open Go PurgeP

/-- A text cut at each blank. -/
def wordsS : Txt → List Txt
  | [] => [[]]
  | c :: r => if c = 32 then [] :: wordsS r else (c :: (wordsS r).headD []) :: (wordsS r).tail
theorem words_cons (c : UInt8) (r : Txt) (h : c ≠ 32) : wordsS (c :: r) = (c :: (wordsS r).headD []) :: (wordsS r).tail := by rw [wordsS, if_neg h]
theorem words_ne (s : Txt) : wordsS s ≠ [] := by
  cases s with
  | nil => simp [wordsS]
  | cons c r => unfold wordsS; split <;> simp
theorem index_ne (c : UInt8) (r : Txt) (h : c ≠ 32) : Lib.index (c :: r) [32] = if Lib.index r [32] == -1 then -1 else Lib.index r [32] + 1 := by
  conv => lhs; unfold Lib.index
  rw [if_neg (by simp [Ne.symm h])]
theorem split_words : ∀ s : Txt, Lib.splitK [32] 0 (Lib.count s [32]) s = wordsS s
  | [] => rfl
  | c :: r => by
    have ih := split_words r
    by_cases h : c = 32
    · subst h
      rw [Lib.count_cons_eq, Nat.add_comm]
      unfold wordsS Lib.splitK
      have e : Lib.index (32 :: r) [32] = 0 := by unfold Lib.index; simp
      rw [e, if_pos rfl, ← ih]
      simp
    · rw [Lib.count_cons_ne c 32 r h]
      unfold wordsS
      rw [if_neg h, ← ih]
      cases hn : Lib.count r [32] with
      | zero => simp [Lib.splitK]
      | succ n =>
        have hne : Lib.index r [32] ≠ -1 := fun e => by rw [Lib.count_miss e] at hn; cases hn
        have hge := Lib.index_ge r [32]
        have e1 : (Lib.index r [32] == -1) = false := beq_eq_false_iff_ne.2 hne
        have e2 : (Lib.index r [32] + 1 == -1) = false := beq_eq_false_iff_ne.2 (by omega)
        unfold Lib.splitK
        rw [index_ne c r h, e1]
        simp only [Bool.false_eq_true, if_false, e2]
        rw [show (Lib.index r [32] + 1).toNat = (Lib.index r [32]).toNat + 1 by omega]
        simp only [List.headD_cons, List.tail_cons, List.take_succ_cons, Nat.add_zero, List.length_singleton]
        congr 1
/-- A word without a blank, and a blank, ahead. -/
theorem words_ahead : ∀ (a r : Txt), (∀ c ∈ a, c ≠ 32) → wordsS (a ++ 32 :: r) = a :: wordsS r
  | [], r, _ => by simp [wordsS]
  | c :: a, r, h => by
    have hc : c ≠ 32 := h c (by simp)
    rw [List.cons_append, words_cons _ _ hc, words_ahead a r (fun d hd => h d (by simp [hd]))]
    simp
theorem words_one : ∀ (a : Txt), (∀ c ∈ a, c ≠ 32) → wordsS a = [a]
  | [], _ => rfl
  | c :: a, h => by
    have hc : c ≠ 32 := h c (by simp)
    rw [words_cons _ _ hc, words_one a (fun d hd => h d (by simp [hd]))]
    simp
theorem words_body : ∀ (a : Txt) (ks : List Txt), (∀ c ∈ a, c ≠ 32) → (∀ k ∈ ks, ∀ c ∈ k, c ≠ 32) → wordsS (a ++ bodyT ks) = a :: ks
  | a, [], h, _ => by simp [bodyT, words_one a h]
  | a, k :: ks, h, hk => by
    have : bodyT (k :: ks) = 32 :: (k ++ bodyT ks) := by simp [bodyT]
    rw [this, words_ahead a _ h, words_body k ks (hk k (by simp)) (fun x hx => hk x (by simp [hx]))]
def hardW : Txt := [104, 97, 114, 100]
def softW : Txt := [115, 111, 102, 116]
theorem itoa_sp (n : Int) (h : 0 ≤ n) : ∀ c ∈ Lib.itoa n, c ≠ 32 := by
  intro c hc e
  have := (itoa_digit n h c hc).1
  rw [e] at this
  exact absurd this (by decide)
theorem words_text {x : Ln} (h : rightB x = true) : wordsS (textL x) = Lib.itoa x.no :: (if x.hard then hardW else softW) :: x.keys := by
  have h1 := ((right_iff x).1 h).1.1
  have hk : ∀ k ∈ x.keys, ∀ c ∈ k, c ≠ 32 := fun k hk c hc e => by
    have := ((key_len (right_key h k hk)).2.2 c hc).1
    rw [e] at this
    exact absurd this (by decide)
  unfold textL wordT
  cases x.hard
  · rw [if_neg (by decide), if_neg (by decide), List.append_assoc]
    show wordsS (Lib.itoa x.no ++ 32 :: (softW ++ bodyT x.keys)) = _
    rw [words_ahead _ _ (itoa_sp _ (by omega)), words_body _ _ (by decide) hk]
  · rw [if_pos rfl, if_pos rfl, List.append_assoc]
    show wordsS (Lib.itoa x.no ++ 32 :: (hardW ++ bodyT x.keys)) = _
    rw [words_ahead _ _ (itoa_sp _ (by omega)), words_body _ _ (by decide) hk]
/-- The program's reading. -/
def pnum (l : Txt) : Option Int := match Lib.parseIntB 64 l with
  | .ok v => some v
  | _ => none
def lineW (no : Int) (W : List Txt) : Ln := ⟨no, W.drop 2, W.getD 1 [] == hardW⟩
def parP (s : Txt) : Option Ln :=
  if (wordsS s).length < 3 then none else (pnum ((wordsS s).getD 0 [])).bind fun no =>
    if rightB (lineW no (wordsS s)) = true ∧ textL (lineW no (wordsS s)) = s then some (lineW no (wordsS s)) else none
/-- The document's. -/
def decR (l : Txt) : Int := l.foldl (fun n c => 10 * n + ((c.toNat : Int) - 48)) 0
def digB (c : UInt8) : Bool := decide (48 ≤ c.toNat) && decide (c.toNat ≤ 57)
def parR (s : Txt) : Option Ln :=
  if (wordsS s).length < 3 ∨ 13 < ((wordsS s).getD 0 []).length then none else if ((wordsS s).getD 0 []).all digB = false then none else
    if rightB (lineW (decR ((wordsS s).getD 0 [])) (wordsS s)) = true ∧ textL (lineW (decR ((wordsS s).getD 0 [])) (wordsS s)) = s then some (lineW (decR ((wordsS s).getD 0 [])) (wordsS s)) else none
theorem lineW_text {x : Ln} (h : rightB x = true) : lineW x.no (wordsS (textL x)) = x := by
  rw [words_text h]
  obtain ⟨no, ks, hd⟩ := x
  unfold lineW
  cases hd <;> simp [hardW, softW]
theorem decR_dec : ∀ n : Nat, decR (Lib.decDigits n) = (n : Int) := by
  intro n
  induction n using Nat.strongRecOn with
  | _ n ih =>
    rw [Lib.decDigits]
    split
    · rename_i h
      unfold decR
      simp only [List.foldl_cons, List.foldl_nil]
      rw [UInt8.toNat_ofNat']
      omega
    · rename_i h
      have := ih (n / 10) (by omega)
      unfold decR at this ⊢
      rw [List.foldl_append, this]
      simp only [List.foldl_cons, List.foldl_nil]
      rw [UInt8.toNat_ofNat']
      omega
theorem dec_len13 : ∀ (n : Nat), n ≤ 1099511627776 → (Lib.decDigits n).length ≤ 13 := by
  intro n hn
  have h : ∀ (k n : Nat), n < 10 ^ (k + 1) → (Lib.decDigits n).length ≤ k + 1 := by
    intro k
    induction k with
    | zero => intro n hn; rw [Lib.decDigits, dif_pos (by omega)]; simp
    | succ k ih =>
      intro n hn
      rw [Lib.decDigits]
      split
      · simp
      · have := ih (n / 10) (by rw [Nat.pow_succ] at hn; omega)
        simp only [List.length_append, List.length_singleton]
        omega
  exact h 12 n (by omega)
theorem parP_iff (s : Txt) (x : Ln) : parP s = some x ↔ rightB x = true ∧ textL x = s := by
  constructor
  · intro h
    unfold parP at h
    split at h
    · cases h
    · cases hp : pnum ((wordsS s).getD 0 []) with
      | none => rw [hp] at h; cases h
      | some no =>
        rw [hp, Option.bind_some] at h
        split at h
        · rename_i h1
          injection h with h
          rw [← h]; exact h1
        · cases h
  · rintro ⟨h1, rfl⟩
    have hri := ((right_iff x).1 h1).1
    have hw := words_text h1
    have hl := lineW_text h1
    have hpn : pnum (Lib.itoa x.no) = some x.no := by unfold pnum; rw [parse_itoa x.no (by omega) (by omega)]
    unfold parP
    rw [if_neg (by rw [hw]; simp; omega)]
    have e0 : (wordsS (textL x)).getD 0 [] = Lib.itoa x.no := by rw [hw]; rfl
    rw [e0, hpn, Option.bind_some, hl, if_pos ⟨h1, rfl⟩]
theorem parR_iff (s : Txt) (x : Ln) : parR s = some x ↔ rightB x = true ∧ textL x = s := by
  constructor
  · intro h
    unfold parR at h
    split at h
    · cases h
    · split at h
      · cases h
      · split at h
        · rename_i h1
          injection h with h
          rw [← h]; exact h1
        · cases h
  · rintro ⟨h1, rfl⟩
    have hri := ((right_iff x).1 h1).1
    have hw := words_text h1
    have hl := lineW_text h1
    have e0 : (wordsS (textL x)).getD 0 [] = Lib.itoa x.no := by rw [hw]; rfl
    have hi : Lib.itoa x.no = Lib.decDigits x.no.toNat := by unfold Lib.itoa; rw [if_neg (by omega)]
    have hd : decR (Lib.itoa x.no) = x.no := by rw [hi, decR_dec]; omega
    have h13 : (Lib.itoa x.no).length ≤ 13 := by rw [hi]; exact dec_len13 _ (by omega)
    have hall : (Lib.itoa x.no).all digB = true := by
      rw [List.all_eq_true]
      intro c hc
      have := itoa_digit x.no (by omega) c hc
      unfold digB
      simp; omega
    unfold parR
    rw [e0, if_neg (by rw [hw]; simp only [List.length_cons]; omega), if_neg (by rw [hall]; decide), hd, hl, if_pos ⟨h1, rfl⟩]
theorem parPR (s : Txt) : parP s = parR s := by
  cases h : parP s with
  | some x => exact ((parR_iff s x).2 ((parP_iff s x).1 h)).symm
  | none =>
    cases h2 : parR s with
    | none => rfl
    | some x => rw [(parP_iff s x).2 ((parR_iff s x).1 h2)] at h; cases h
/-- What either tells: a line, an error. -/
def parL (s : Txt) : Ln := (parP s).getD zeroL
def parE (s : Txt) : Int := if (parP s).isSome then 0 else 2
end Go.Proofs.YtdcjljlppeighaaDoor
