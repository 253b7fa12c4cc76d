/-
  What stands in the world's variables all along; texts of spans in plain Lean; the program's Text.
-/
import Derived.Test.YtpcedmiehoimbaaDoorSpanWalkA
import Derived.Test.YtpcedmiehoimbaaDoorStr
import Derived.Lib.ItoaLen
namespace Go.Proofs.YtpcedmiehoimbaaDoor
open Go.RowKit SpanP

/-- What the library's functions find in their variables. -/
def Std (w : World) : Prop :=
  Lib.TabIs Tryd.prog w "internal/strconv.uint64pow10" .u64 Lib.pow10Tab ∧ (∃ tp p, w.var? Tryd.prog "strconv.ErrSyntax" = some #[.iface tp p]) ∧ (∃ tp p, w.var? Tryd.prog "strconv.ErrRange" = some #[.iface tp p]) ∧
    ∃ m, w.cell? ⟨1, 0, none⟩ = some (.int .i64 m)
theorem Gr.var {w w' : World} (h : Gr w w') {n : String} {cs : Array Value} (hv : w.var? Tryd.prog n = some cs) : w'.var? Tryd.prog n = some cs := by
  unfold World.var? at hv ⊢
  obtain ⟨g, hg, hm⟩ := Option.bind_eq_some_iff.1 hv
  rw [hg, Option.bind_some]
  cases hh : w.heap[g]? with
  | none => rw [hh] at hm; cases hm
  | some o => rw [Below.block h g (by rw [Array.getElem?_eq_some_iff] at hh; exact hh.1)]; exact hm
theorem Std.gr {w w' : World} (h : Std w) (g : Gr w w') : Std w' := by
  obtain ⟨a, ⟨t1, p1, b⟩, ⟨t2, p2, c⟩, m, d⟩ := h
  exact ⟨g.var a, ⟨t1, p1, g.var b⟩, ⟨t2, p2, g.var c⟩, m, g.cell d⟩
/-- A span's text. -/
def textL (a b : Int) : List UInt8 :=
  if 0 ≤ a ∧ a ≤ b ∧ b ≤ 4611686018427387904 then (if b = 4611686018427387904 ∧ a ≠ 4611686018427387904 then Lib.itoa a ++ [45] else Lib.itoa a ++ 45 :: Lib.itoa b) else []
theorem fmt_calls (n : Int) (h0 : -9223372036854775808 ≤ n) (h1 : n ≤ 9223372036854775807) (w : World) (hS : Std w) :
    Calls Tryd.prog 38 #[.int .i64 n, .int .i64 10] w fun e w' => e = .returned (.string (bstr (Lib.itoa n))) ∧ Gr w w' := by
  refine (Tryd.strconv_FormatInt_10 n h0 h1 w hS.1).mono ?_
  rintro e w' ⟨rfl, k, os, rfl⟩
  refine ⟨rfl, ?_⟩
  exact ⟨rfl, rfl, rfl, by simp [Sort.grow], fun j hj => by simp only [Sort.grow]; rw [Array.getElem?_append_left (by simpa using hj)]; rfl⟩
theorem bstr_add (a b : List UInt8) : bstr a ++ bstr b = bstr (a ++ b) := by
  unfold bstr
  apply ByteArray.ext
  simp
theorem bstr_dash (a : List UInt8) : bstr a ++ (⟨#[45]⟩ : ByteArray) = bstr (a ++ [45]) := bstr_add a [45]
theorem bstr_size (a : List UInt8) : (bstr a).size = a.length := rfl
theorem open_calls (a b : Int) (w : World) : Calls Tryd.prog 36 #[.agg #[.int .i64 a, .int .i64 b]] w fun e w' => e = .returned (.bool (openB a b)) ∧ Gr w w' := by
  go_enter Tryd.func36, Tryd.ntmps36
  go_wp2
  · rename_i h
    go_ret
    exact ⟨congrArg (fun x => Ending.returned (Value.bool x)) (by rw [Bool.eq_iff_iff]; simp [openB, h]), (Gr.refl w).alloc _⟩
  · rename_i h
    go_ret
    exact ⟨by simp [openB, h], (Gr.refl w).alloc _⟩
attribute [local go_sem] bstr_dash bstr_add
set_option maxRecDepth 100000 in
theorem stext_calls (a b : Int) (w : World) (hS : Std w) : Calls Tryd.prog 30 #[.agg #[.int .i64 a, .int .i64 b]] w fun e w' => e = .returned (.string (bstr (textL a b))) ∧ Gr w w' := by
  cases hr : rightB a b
  · have ht : textL a b = [] := if_neg (of_decide_eq_false hr)
    go_enter Tryd.func30, Tryd.ntmps30
    go_wp2_with (go_at_call 13; refine (sright_calls _ _ _).mono ?_; rintro e w1 ⟨rfl, g1⟩)
    go_ret
    exact ⟨by rw [ht]; rfl, ((Gr.refl w).alloc _).trans g1⟩
  · have hb := of_decide_eq_true hr
    obtain ⟨hb1, hb2, hb3⟩ := hb
    have hS' := hS.gr ((Gr.refl w).alloc (.cells #[.int .i64 a, .int .i64 b] 23))
    have c0 := new0 w (.int .i64 a) (.int .i64 b) 23
    have c1 := new1 w (.int .i64 a) (.int .i64 b) 23
    have za : ¬ 9223372036854775807 < (bstr (Lib.itoa a)).size + 1 := by rw [bstr_size]; have := Lib.itoa_length_le a (by omega) (by omega); omega
    have zb : ¬ 9223372036854775807 < (bstr (Lib.itoa a ++ [45])).size + (bstr (Lib.itoa b)).size := by rw [bstr_size, bstr_size, List.length_append]; have := Lib.itoa_length_le a (by omega) (by omega); have := Lib.itoa_length_le b (by omega) (by omega); simp; omega
    have HT : Hid (textL a b = if b = 4611686018427387904 ∧ a ≠ 4611686018427387904 then Lib.itoa a ++ [45] else Lib.itoa a ++ 45 :: Lib.itoa b) := if_pos ⟨hb1, hb2, hb3⟩
    go_enter Tryd.func30, Tryd.ntmps30
    go_wp2_with (first | (go_at_call 13; refine (sright_calls _ _ _).mono ?_; rintro e w1 ⟨rfl, g1⟩; have d0 := g1.cell c0; have d1 := g1.cell c1; have s1 := hS'.gr g1) | (go_at_call 38; refine (fmt_calls a (by omega) (by omega) _ s1).mono ?_; rintro e w2 ⟨rfl, g2⟩; have e0 := g2.cell d0; have e1 := g2.cell d1; have s2 := s1.gr g2) | (go_at_call 38; refine (fmt_calls b (by omega) (by omega) _ (s2.gr go)).mono ?_; rintro e w3 ⟨rfl, g3⟩) | (go_at_call 36; refine (open_calls _ _ _).mono ?_; rintro e wo ⟨rfl, go⟩; have f0 := go.cell e0; have f1 := go.cell e1))
    · rename_i h
      go_ret
      exact ⟨by rw [HT.out, if_pos (of_decide_eq_true h)]; rfl, ((((Gr.refl w).alloc _).trans g1).trans g2).trans go⟩
    · rename_i h
      go_ret
      exact ⟨by rw [HT.out, if_neg (of_decide_eq_false h)]; rfl, (((((Gr.refl w).alloc _).trans g1).trans g2).trans go).trans g3⟩
end Go.Proofs.YtpcedmiehoimbaaDoor
