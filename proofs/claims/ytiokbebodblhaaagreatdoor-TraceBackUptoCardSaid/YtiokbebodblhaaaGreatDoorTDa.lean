/-
  Walks of the document: Num, yes.
-/
import Derived.Test.YtiokbebodblhaaaGreatDoorTTx
import Derived.Test.YtiokbebodblhaaaGreatDoorTPlain
import Derived.Test.YtiokbebodblhaaaGreatDoorTraceRt
namespace Go.Proofs.YtiokbebodblhaaaGreatDoor
open Go.RowKit TraceP
attribute [local go_sem] bstr_add

theorem ryes_calls (b : Bool) (w : World) : Calls Tryz.prog 36 #[.bool b] w fun e w' => e = .returned (.string (bstr (yesT b))) ∧ w = w' := by
  cases b
  · go_enter Tryz.func36, Tryz.ntmps36
    go_wp2
    go_ret
    exact ⟨rfl, rfl⟩
  · go_enter Tryz.func36, Tryz.ntmps36
    go_wp2
    go_ret
    exact ⟨rfl, rfl⟩
set_option maxRecDepth 100000 in
theorem dgt (w : World) (n : Nat) (hn : n < 10) : (Instr.slice 9 (.string ⟨#[48, 49, 50, 51, 52, 53, 54, 55, 56, 57]⟩) (some (.int .i64 (n : Int))) (some (.int .i64 ((n : Int) + 1))) none).run Tryz.prog w = .ok (.string (bstr (Lib.decDigits n))) w := by
  have h := run_slice_string (P := Tryz.prog) w 9 ⟨#[48, 49, 50, 51, 52, 53, 54, 55, 56, 57]⟩ .i64 .i64 (n : Int) ((n : Int) + 1) Tryz.underlying9 (by omega) (by omega) (by show (n : Int) + 1 ≤ ((10 : Nat) : Int); omega)
  rw [h]
  congr 2
  rw [Int.toNat_natCast, show ((n : Int) + 1).toNat = n + 1 by omega, Lib.decDigits_one hn]
  have : n = 0 ∨ n = 1 ∨ n = 2 ∨ n = 3 ∨ n = 4 ∨ n = 5 ∨ n = 6 ∨ n = 7 ∨ n = 8 ∨ n = 9 := by omega
  rcases this with rfl | rfl | rfl | rfl | rfl | rfl | rfl | rfl | rfl | rfl <;> rfl
abbrev NumC (x : Int) (t : Txt) : Prop := ∀ w : World, Calls Tryz.prog 33 #[.int .i64 x] w fun e w' => e = .returned (.string (bstr t)) ∧ w = w'
theorem num_small (n : Nat) (h : n < 10) : NumC (n : Int) (Lib.decDigits n) := by
  intro w
  have d0 : decide ((n : Int) < 0) = false := decide_eq_false (by omega)
  have d1 : decide ((n : Int) < 10) = true := decide_eq_true (by omega)
  have d2 : decide (n < 10) = true := decide_eq_true h
  have sl := fun w => dgt w n h
  go_enter Tryz.func33, Tryz.ntmps33
  go_wp2
  go_ret
  exact ⟨rfl, rfl⟩
theorem dec_len25 (n : Nat) (h : n ≤ 9223372036854775808) : (Lib.decDigits n).length ≤ 25 := by
  have := dec_len n 25 (by rw [show (10 : Nat) ^ 25 = 10000000000000000000000000 by decide]; omega) (by decide)
  exact this
theorem num_great (n : Nat) (h : ¬ n < 10) (hn : n ≤ 9223372036854775807) (ih : ∀ m : Nat, m < n → NumC (m : Int) (Lib.decDigits m)) : NumC (n : Int) (Lib.decDigits n) := by
  intro w
  have d0 : decide ((n : Int) < 0) = false := decide_eq_false (by omega)
  have d1 : decide ((n : Int) < 10) = false := decide_eq_false (by omega)
  have d2 : decide (n < 10) = false := decide_eq_false h
  have i1 : Hid (NumC ((n : Int) / 10) (Lib.decDigits (n / 10))) := by
    have := ih (n / 10) (by omega)
    rwa [show ((n / 10 : Nat) : Int) = (n : Int) / 10 by omega] at this
  have i2 : Hid (NumC ((n : Int) % 10) (Lib.decDigits (n % 10))) := by
    have := ih (n % 10) (by omega)
    rwa [show ((n % 10 : Nat) : Int) = (n : Int) % 10 by omega] at this
  have hd : Hid (Lib.decDigits (n / 10) ++ Lib.decDigits (n % 10) = Lib.decDigits n) := by
    show _ = _
    rw [Lib.decDigits_one (i := n % 10) (by omega)]
    conv => rhs; rw [Lib.decDigits, dif_neg h]
  have z1 : ¬ 9223372036854775807 < (bstr (Lib.decDigits (n / 10))).size + (bstr (Lib.decDigits (n % 10))).size := by
    rw [bstr_size, bstr_size]
    have := dec_len25 (n / 10) (by omega)
    have := dec_len25 (n % 10) (by omega)
    omega
  clear ih
  generalize Lib.decDigits (n / 10) = x at *
  generalize Lib.decDigits (n % 10) = y at *
  go_enter Tryz.func33, Tryz.ntmps33
  go_wp2_with (first | (go_at_call 33; have _q := g1; with_reducible refine (i2.out _).mono ?_; rintro e w2 ⟨rfl, rfl⟩) | (go_at_call 33; with_reducible refine (i1.out _).mono ?_; rintro e w1 ⟨rfl, rfl⟩; have g1 : True := trivial))
  go_ret
  exact ⟨by rw [← hd.out]; rfl, rfl⟩
theorem num_nat : ∀ (n : Nat), n ≤ 9223372036854775807 → NumC (n : Int) (Lib.decDigits n) := by
  intro n
  induction n using Nat.strongRecOn with
  | _ n ih =>
    intro hn
    by_cases h : n < 10
    · exact num_small n h
    · exact num_great n h hn fun m hm => ih m hm (by omega)
theorem neg_small (n : Nat) (h0 : 0 < n) (h : n < 10) : NumC (-(n : Int)) (45 :: Lib.decDigits n) := by
  intro w
  have d0 : decide (-(n : Int) < 0) = true := decide_eq_true (by omega)
  have d1 : decide ((-10 : Int) < -(n : Int)) = true := decide_eq_true (by omega)
  have i1 : Hid (NumC (n : Int) (Lib.decDigits n)) := num_small n h
  have wk : wrap64 (- -(n : Int)) = (n : Int) := by unfold wrap64; omega
  have z1 : ¬ 9223372036854775807 < (⟨#[45]⟩ : ByteArray).size + (bstr (Lib.decDigits n)).size := by
    rw [bstr_size]
    have := dec_len25 n (by omega)
    show ¬ _ < 1 + _
    omega
  have hb : (⟨#[45]⟩ : ByteArray) ++ bstr (Lib.decDigits n) = bstr (45 :: Lib.decDigits n) := bstr_add [45] _
  go_enter Tryz.func33, Tryz.ntmps33
  go_wp2_with (go_at_call 33; with_reducible refine (i1.out _).mono ?_; rintro e w1 ⟨rfl, rfl⟩)
  go_ret
  exact ⟨rfl, rfl⟩
theorem neg_great (n : Nat) (h : ¬ n < 10) (hn : n ≤ 9223372036854775808) (ih : NumC (-((n / 10 : Nat) : Int)) (45 :: Lib.decDigits (n / 10))) : NumC (-(n : Int)) (45 :: Lib.decDigits n) := by
  intro w
  have d0 : decide (-(n : Int) < 0) = true := decide_eq_true (by omega)
  have d1 : decide ((-10 : Int) < -(n : Int)) = false := decide_eq_false (by omega)
  have i1 : Hid (NumC (-((n : Int) / 10)) (45 :: Lib.decDigits (n / 10))) := by
    rwa [show ((n / 10 : Nat) : Int) = (n : Int) / 10 by omega] at ih
  have i2 : Hid (NumC ((n : Int) % 10) (Lib.decDigits (n % 10))) := by
    have := num_small (n % 10) (by omega)
    rwa [show ((n % 10 : Nat) : Int) = (n : Int) % 10 by omega] at this
  have hd : Hid (Lib.decDigits (n / 10) ++ Lib.decDigits (n % 10) = Lib.decDigits n) := by
    show _ = _
    rw [Lib.decDigits_one (i := n % 10) (by omega)]
    conv => rhs; rw [Lib.decDigits, dif_neg h]
  have z1 : ¬ 9223372036854775807 < (bstr (45 :: Lib.decDigits (n / 10))).size + (bstr (Lib.decDigits (n % 10))).size := by
    rw [bstr_size, bstr_size, List.length_cons]
    have := dec_len25 (n / 10) (by omega)
    have := dec_len25 (n % 10) (by omega)
    omega
  clear ih
  generalize Lib.decDigits (n / 10) = x at *
  generalize Lib.decDigits (n % 10) = y at *
  go_enter Tryz.func33, Tryz.ntmps33
  go_wp2_with (first | (go_at_call 33; have _q := g1; with_reducible refine (i2.out _).mono ?_; rintro e w2 ⟨rfl, rfl⟩) | (go_at_call 33; with_reducible refine (i1.out _).mono ?_; rintro e w1 ⟨rfl, rfl⟩; have g1 : True := trivial))
  go_ret
  exact ⟨by rw [← hd.out]; rfl, rfl⟩
theorem num_neg : ∀ (n : Nat), 0 < n → n ≤ 9223372036854775808 → NumC (-(n : Int)) (45 :: Lib.decDigits n) := by
  intro n
  induction n using Nat.strongRecOn with
  | _ n ih =>
    intro h0 hn
    by_cases h : n < 10
    · exact neg_small n h0 h
    · exact neg_great n h hn (ih (n / 10) (by omega) (by omega) (by omega))
/-- The document's numeral. -/
theorem dnum_calls (n : Int) (h : I64 n) : NumC n (numT n) := by
  obtain ⟨h1, h2⟩ := h
  rcases numT_cases n with ⟨h0, e⟩ | ⟨h0, e⟩ <;> rw [e]
  · have := num_nat n.toNat (by omega)
    rwa [show ((n.toNat : Nat) : Int) = n by omega] at this
  · have := num_neg (-n).toNat (by omega) (by omega)
    rwa [show -(((-n).toNat : Nat) : Int) = n by omega] at this
end Go.Proofs.YtiokbebodblhaaaGreatDoor
namespace Go.Proofs.YtiokbebodblhaaaGreatDoor
open Go.RowKit TraceP

theorem exec_add {a : Act} {o : Oper} (t : TypeId) (x y : Operand) (ho : o.op = .binOp .add 9 x y t) (p q : Txt) (hx : a.eval x = .string (bstr p)) (hy : a.eval y = .string (bstr q)) (hl : p.length + q.length ≤ 9223372036854775807) (w : World) :
    (execOp a.eval o).run Tryz.prog w = .ok (.value (.string (bstr (p ++ q)))) w := by
  have z : ¬ 9223372036854775807 < (bstr p).size + (bstr q).size := by rw [bstr_size, bstr_size]; omega
  have hb := bstr_add p q
  unfold execOp
  simp only [ho, hx, hy]
  go_simp
theorem wpQuiet_add {ops : Array Oper} {C : World → Prop} {Q : Act → Prop} {a : Act} {o : Oper} {rest : List Oper} (hw : Region.wanted o (yielded ops a.tmps) = true) (t : TypeId) (x y : Operand) (ho : o.op = .binOp .add 9 x y t) (p q : Txt) (hx : a.eval x = .string (bstr p)) (hy : a.eval y = .string (bstr q)) (hl : p.length + q.length ≤ 9223372036854775807)
    (h : wpQuiet Tryz.prog ops C Q rest (a.put o.dst (.string (bstr (p ++ q))))) : wpQuiet Tryz.prog ops C Q (o :: rest) a :=
  BigFrame.wpQuiet_want hw fun K hK => ⟨.string (bstr (p ++ q)), fun w hC => by
    unfold Oper.quietAt
    rw [exec_add t x y ho p q hx hy hl w]
    exact ⟨rfl, rfl⟩, hK _ h⟩
theorem wpList_add {ops : Array Oper} {Q : Exit → Act → World → Prop} {a : Act} {w : World} {o : Oper} {rest : List Oper} (hw : Region.wanted o (yielded ops a.tmps) = true) (t : TypeId) (x y : Operand) (ho : o.op = .binOp .add 9 x y t) (p q : Txt) (hx : a.eval x = .string (bstr p)) (hy : a.eval y = .string (bstr q)) (hl : p.length + q.length ≤ 9223372036854775807)
    (h : wpList Tryz.prog ops Q rest (a.put o.dst (.string (bstr (p ++ q)))) w) : wpList Tryz.prog ops Q (o :: rest) a w :=
  wpList_one hw fun K hK => by
    unfold Oper.wp
    rw [exec_add t x y ho p q hx hy hl w]
    exact hK _ _ h
/-- A space, as an operand. -/
abbrev spO : Operand := .const (.string ⟨#[32]⟩)
theorem wqA {ops : Array Oper} {C : World → Prop} {Q : Act → Prop} {a : Act} {o : Oper} {rest : List Oper} {t : TypeId} (x y : Operand) (ho : o.op = .binOp .add 9 x y t) (p q : Txt) (h : wpQuiet Tryz.prog ops C Q rest (a.put o.dst (.string (bstr (p ++ q)))))
    (hw : Region.wanted o (yielded ops a.tmps) = true := by kernel_rfl) (hx : a.eval x = .string (bstr p) := by kernel_rfl) (hy : a.eval y = .string (bstr q) := by kernel_rfl) (hl : p.length + q.length ≤ 9223372036854775807 := by simp only [List.length_append, List.length_cons, List.length_nil]; omega) : wpQuiet Tryz.prog ops C Q (o :: rest) a :=
  wpQuiet_add hw t x y ho p q hx hy hl h
end Go.Proofs.YtiokbebodblhaaaGreatDoor
