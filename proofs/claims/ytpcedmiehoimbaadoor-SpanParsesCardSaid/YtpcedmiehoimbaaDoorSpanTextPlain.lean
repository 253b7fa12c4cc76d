/-
  Texts of spans in plain Lean: a right span is read back from its text; two right spans have one text just if they are one.
-/
import Derived.Test.YtpcedmiehoimbaaDoorSpanDigits
import Derived.Test.YtpcedmiehoimbaaDoorSpanParse
namespace Go.Proofs.YtpcedmiehoimbaaDoor
open Go.RowKit SpanP

theorem pnum_itoa (x : Int) (h0 : 0 ≤ x) (h1 : x ≤ 4611686018427387904) : pnum (Lib.itoa x) = some x := by
  unfold pnum
  rw [parse_itoa x h0 h1]
theorem text_right (a b : Int) (h : rightB a b = true) : textL a b = if b = 4611686018427387904 ∧ a ≠ 4611686018427387904 then Lib.itoa a ++ [45] else Lib.itoa a ++ 45 :: Lib.itoa b := if_pos (of_decide_eq_true h)
theorem text_wrong (a b : Int) (h : rightB a b = false) : textL a b = [] := if_neg (of_decide_eq_false h)
theorem text_back (a b : Int) (h : rightB a b = true) : pspan (textL a b) = some (a, b) := by
  have ht := text_right a b h
  obtain ⟨h1, h2, h3⟩ : 0 ≤ a ∧ a ≤ b ∧ b ≤ 4611686018427387904 := of_decide_eq_true h
  by_cases ho : b = 4611686018427387904 ∧ a ≠ 4611686018427387904
  · rw [if_pos ho] at ht
    have hc : Lib.cut (textL a b) [45] = (Lib.itoa a, [], true) := by rw [ht]; exact cut_dash _ [] (itoa_dash a h1)
    unfold pspan
    rw [hc]
    simp only [if_true, pnum_itoa a h1 (by omega), Option.bind_some]
    rw [← ho.1, if_pos rfl]
  · rw [if_neg ho] at ht
    have hc : Lib.cut (textL a b) [45] = (Lib.itoa a, Lib.itoa b, true) := by rw [ht]; exact cut_dash _ _ (itoa_dash a h1)
    unfold pspan
    rw [hc]
    simp only [if_true, pnum_itoa a h1 (by omega), Option.bind_some, if_neg (itoa_ne b), pnum_itoa b (by omega) h3]
theorem text_ne (a b : Int) (h : rightB a b = true) : textL a b ≠ [] := by
  rw [text_right a b h]
  split <;> simp
theorem text_inj (a b c d : Int) (h : rightB a b = true) (he : textL c d = textL a b) : a = c ∧ b = d := by
  cases hr : rightB c d with
  | false => rw [text_wrong c d hr] at he; exact absurd he.symm (text_ne a b h)
  | true =>
    have h1 := text_back a b h
    have h2 := text_back c d hr
    rw [he, h1] at h2
    injection h2 with h2
    injection h2 with h2 h3
    exact ⟨h2, h3⟩
theorem text_len (a b : Int) : (textL a b).length ≤ 100 := by
  cases hr : rightB a b with
  | false => rw [text_wrong a b hr]; simp
  | true =>
    obtain ⟨h1, h2, h3⟩ : 0 ≤ a ∧ a ≤ b ∧ b ≤ 4611686018427387904 := of_decide_eq_true hr
    have l1 := Lib.itoa_length_le a (by omega) (by omega)
    have l2 := Lib.itoa_length_le b (by omega) (by omega)
    rw [text_right a b hr]
    split
    · simp; omega
    · simp; omega
theorem par_nil : pspan [] = none := by decide +kernel
/-- The program's Parse at a right span's text; at none. -/
theorem par_text (a b : Int) (h : rightB a b = true) (w : World) (hS : Std w) : Calls Tryd.prog 32 #[.string (bstr (textL a b))] w fun e w' => e = .returned (.tuple #[.agg #[.int .i64 a, .int .i64 b], .int .i64 0]) ∧ Gr w w' := by
  refine (sparse_calls (textL a b) (by have := text_len a b; omega) w hS).mono ?_
  rintro e w' ⟨rfl, g⟩
  refine ⟨?_, g⟩
  unfold parF parT parE
  rw [text_back a b h]
  rfl
theorem par_wrong (a b : Int) (h : rightB a b = false) (w : World) (hS : Std w) : Calls Tryd.prog 32 #[.string (bstr (textL a b))] w fun e w' => e = .returned (.tuple #[.agg #[.int .i64 0, .int .i64 0], .int .i64 2]) ∧ Gr w w' := by
  refine (sparse_calls (textL a b) (by have := text_len a b; omega) w hS).mono ?_
  rintro e w' ⟨rfl, g⟩
  refine ⟨?_, g⟩
  unfold parF parT parE
  rw [text_wrong a b h, par_nil]
  rfl
/-- A text that is read is that of what it was read as. -/
theorem pspan_some {l : List UInt8} {x y : Int} (h : pspan l = some (x, y)) : textL x y = l ∧ rightB x y = true := by
  unfold pspan at h
  split at h
  · rename_i hc
    obtain ⟨u, _, h⟩ := Option.bind_eq_some_iff.1 h
    obtain ⟨v, _, h⟩ := Option.bind_eq_some_iff.1 h
    split at h
    · rename_i he
      injection h with h
      injection h with h1 h2
      subst h1 h2
      refine ⟨he, ?_⟩
      cases hr : rightB u v with
      | true => rfl
      | false =>
        rw [text_wrong u v hr] at he
        rw [← he] at hc
        exact absurd hc (by decide +kernel)
    · cases h
  · cases h
end Go.Proofs.YtpcedmiehoimbaaDoor
