/-
  The document's Number in plain Lean: it reads a numeral back.
-/
import Derived.Test.YtpcedmiehoimbaaDoorSpanDigits
namespace Go.Proofs.YtpcedmiehoimbaaDoor
open Go

def numGo (n : Int) : List UInt8 → Int
  | [] => n
  | c :: r => if (c.toNat : Int) - 48 < 0 ∨ 9 < (c.toNat : Int) - 48 ∨ (4611686018427387904 - ((c.toNat : Int) - 48)) / 10 < n then -1 else numGo (10 * n + ((c.toNat : Int) - 48)) r
def numL (l : List UInt8) : Int := if l.length = 0 ∨ 19 < l.length ∨ (l.head? = some 48 ∧ 1 < l.length) then -1 else numGo 0 l
theorem numGo_append : ∀ (l : List UInt8) (n : Int) (c : UInt8) (v : Int), numGo n l = v → 0 ≤ n → 0 ≤ v → numGo n (l ++ [c]) = numGo v [c]
  | [], n, c, v, h, _, _ => by rw [← h]; rfl
  | d :: l, n, c, v, h, h0, h1 => by
    simp only [numGo] at h
    rw [List.cons_append]
    simp only [numGo]
    split at h
    · omega
    · rename_i hd
      rw [if_neg hd]
      have := numGo_append l (10 * n + ((d.toNat : Int) - 48)) c v h (by omega) h1
      rw [this]
      rfl
theorem numGo_dec : ∀ n : Nat, n ≤ 4611686018427387904 → numGo 0 (Lib.decDigits n) = (n : Int) := by
  intro n
  induction n using Nat.strongRecOn with
  | _ n ih =>
    intro hn
    rw [Lib.decDigits]
    split
    · rename_i h
      have e : (UInt8.ofNat (48 + n)).toNat = 48 + n := by rw [UInt8.toNat_ofNat']; omega
      simp only [numGo]
      rw [e, if_neg (by omega)]
      omega
    · rename_i h
      have e : (UInt8.ofNat (48 + n % 10)).toNat = 48 + n % 10 := by rw [UInt8.toNat_ofNat']; omega
      rw [numGo_append _ 0 _ ((n / 10 : Nat) : Int) (ih _ (by omega) (by omega)) (by omega) (by omega)]
      simp only [numGo]
      rw [e, if_neg (by omega)]
      omega
theorem dec_len (n : Nat) (h : n < 10000000000000000000) : (Lib.decDigits n).length ≤ 19 := by
  have key : ∀ (k n : Nat), n < 10 ^ (k + 1) → (Lib.decDigits n).length ≤ k + 1 := by
    intro k
    induction k with
    | zero =>
      intro n hn
      rw [Lib.decDigits, dif_pos (by simpa using hn)]
      simp
    | succ k ih =>
      intro n hn
      rw [Lib.decDigits]
      split
      · simp
      · rw [List.length_append]
        have := ih (n / 10) (by rw [Nat.pow_succ] at hn; omega)
        simp
        omega
  exact key 18 n (by simpa using h)
theorem dec_head (n : Nat) (h : 10 ≤ n) : (Lib.decDigits n).head? ≠ some 48 := by
  induction n using Nat.strongRecOn with
  | _ n ih =>
    rw [Lib.decDigits, dif_neg (by omega)]
    by_cases h1 : n / 10 < 10
    · rw [Lib.decDigits, dif_pos h1]
      simp only [List.cons_append, List.head?_cons, ne_eq, Option.some.injEq]
      intro he
      have := congrArg UInt8.toNat he
      rw [UInt8.toNat_ofNat'] at this
      have e : (48 : UInt8).toNat = 48 := rfl
      omega
    · have := ih (n / 10) (by omega) (by omega)
      rw [List.head?_append]
      cases hd : (Lib.decDigits (n / 10)).head? with
      | none => exact absurd (List.head?_eq_none_iff.1 hd) (dec_ne _)
      | some c => rw [hd] at this; simpa using this
theorem num_itoa (x : Int) (h0 : 0 ≤ x) (h1 : x ≤ 4611686018427387904) : numL (Lib.itoa x) = x := by
  unfold Lib.itoa
  rw [if_neg (by omega)]
  unfold numL
  have hl := dec_len x.toNat (by omega)
  have hg := numGo_dec x.toNat (by omega)
  have hne : (Lib.decDigits x.toNat).length ≠ 0 := fun h => dec_ne _ (List.length_eq_zero_iff.1 h)
  rw [if_neg, hg]
  · omega
  · rintro (h | h | ⟨h, h2⟩)
    · exact hne h
    · omega
    · by_cases hx : 10 ≤ x.toNat
      · exact dec_head _ hx h
      · rw [Lib.decDigits, dif_pos (by omega)] at h2
        simp at h2
end Go.Proofs.YtpcedmiehoimbaaDoor
