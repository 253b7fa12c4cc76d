/-
  The acts that come in, opened.
-/
import Derived.Test.YtmemkoiooanhkaaOpen
import Derived.Test.YtmemkoiooanhkaaDiskMem
namespace Go.Proofs.Ytmemkoiooanhkaa
open Go.RowKit DiskP

/-- An act, as it comes in. -/
structure ActR where
  kind : Int
  n : Int
  torn : Int
  b : UInt8
  keep : List Bool
  ka : Option Addr
  kc : Nat
def ActR.cells (a : ActR) : List Value := [.int .i64 a.kind, .int .i64 a.n, .int .i64 a.torn, .int .u8 (a.b.toNat : Int), .slice a.ka a.keep.length a.kc]
/-- Its numbers are numbers of 64 bits, its flags lie in memory. -/
structure ActOK (W : World) (a : ActR) : Prop where
  k1 : -9223372036854775808 ≤ a.kind
  k2 : a.kind ≤ 9223372036854775807
  n1 : -9223372036854775808 ≤ a.n
  n2 : a.n ≤ 9223372036854775807
  t1 : -9223372036854775808 ≤ a.torn
  t2 : a.torn ≤ 9223372036854775807
  l2 : a.keep.length ≤ 9223372036854775807
  rv : RV W a.ka (a.keep.map Value.bool)
theorem map_of' {α β : Type} {p : α → Prop} (f : α → β) {vs : List β} (h : ∀ u ∈ vs, ∃ a, p a ∧ u = f a) : ∃ l : List α, vs = l.map f ∧ ∀ a ∈ l, p a := by
  induction vs with
  | nil => exact ⟨[], rfl, by simp⟩
  | cons u vs ih =>
    obtain ⟨a, ha, rfl⟩ := h u (by simp)
    obtain ⟨l, rfl, hl⟩ := ih (fun u hu => h u (by simp [hu]))
    exact ⟨a :: l, rfl, by simpa using ⟨ha, hl⟩⟩
theorem i64_of {x : Int} (h : (Lit.int .i64 x).wf = true) : -9223372036854775808 ≤ x ∧ x ≤ 9223372036854775807 := by
  simpa [Lit.wf, IntKind.min, IntKind.max, IntKind.signed, IntKind.bits] using h
theorem len5 {r : List Value} (h : r.length = 5) : ∃ a b c d e, r = [a, b, c, d, e] := by
  match r, h with
  | [a, b, c, d, e], _ => exact ⟨a, b, c, d, e, rfl⟩
section
variable {H : Type} {enc : TypeId × Value → H} {W : World} {sp : Nat → Bool} {v : Value} {x : DataW H × List MemPlace} {fuel : Nat}
theorem act_of {r : List Value} (hr : r.length = 5) (h : DataW.trod enc Try.prog W 0 sp true fuel 31 r = some x) : ∃ a : ActR, ActOK W a ∧ r = a.cells := by
  obtain ⟨v0, v1, v2, v3, v4, rfl⟩ := len5 hr
  obtain ⟨xs, n, rfl, _, _, hl, hf⟩ := DataW.trod_struct Try.underlying31 h
  have c1 : Try.prog.cellsOf 23 = 1 := by kernel_rfl
  have ci : Try.prog.cellsOf 3 = 1 := by kernel_rfl
  have cu : Try.prog.cellsOf 5 = 1 := by kernel_rfl
  have l : xs.length = 5 := hl
  have f0 : DataW.trod enc Try.prog W 0 sp true n 3 (List.take (Try.prog.cellsOf 3) (List.drop 0 [v0, v1, v2, v3, v4])) = xs[0]? := hf 0 _ rfl
  rw [ci, List.getElem?_eq_getElem (by omega)] at f0
  replace f0 : DataW.trod enc Try.prog W 0 sp true n 3 [v0] = some _ := f0
  have f1 : DataW.trod enc Try.prog W 0 sp true n 3 (List.take (Try.prog.cellsOf 3) (List.drop 1 [v0, v1, v2, v3, v4])) = xs[1]? := hf 1 _ rfl
  rw [ci, List.getElem?_eq_getElem (by omega)] at f1
  replace f1 : DataW.trod enc Try.prog W 0 sp true n 3 [v1] = some _ := f1
  have f2 : DataW.trod enc Try.prog W 0 sp true n 3 (List.take (Try.prog.cellsOf 3) (List.drop 2 [v0, v1, v2, v3, v4])) = xs[2]? := hf 2 _ rfl
  rw [ci, List.getElem?_eq_getElem (by omega)] at f2
  replace f2 : DataW.trod enc Try.prog W 0 sp true n 3 [v2] = some _ := f2
  have f3 : DataW.trod enc Try.prog W 0 sp true n 5 (List.take (Try.prog.cellsOf 5) (List.drop 3 [v0, v1, v2, v3, v4])) = xs[3]? := hf 3 _ rfl
  rw [cu, List.getElem?_eq_getElem (by omega)] at f3
  replace f3 : DataW.trod enc Try.prog W 0 sp true n 5 [v3] = some _ := f3
  have f4 : DataW.trod enc Try.prog W 0 sp true n 23 (List.take (Try.prog.cellsOf 23) (List.drop 4 [v0, v1, v2, v3, v4])) = xs[4]? := hf 4 _ rfl
  rw [c1, List.getElem?_eq_getElem (by omega)] at f4
  replace f4 : DataW.trod enc Try.prog W 0 sp true n 23 [v4] = some _ := f4
  obtain ⟨z0, e0, _, w0⟩ := DataW.trod_int Try.underlying3 f0
  obtain ⟨z1, e1, _, w1⟩ := DataW.trod_int Try.underlying3 f1
  obtain ⟨z2, e2, _, w2⟩ := DataW.trod_int Try.underlying3 f2
  obtain ⟨z3, e3, _, w3⟩ := DataW.trod_int Try.underlying5 f3
  obtain ⟨c3, rfl⟩ := u8_of' w3
  injection e0 with e0
  injection e1 with e1
  injection e2 with e2
  injection e3 with e3
  obtain ⟨kl, ka, kc, rfl, h1, h2, h3⟩ := bools_of Try.underlying23 Try.underlying4 (by kernel_rfl) f4
  subst e0 e1 e2 e3
  unfold maxLen at h2
  exact ⟨⟨z0, z1, z2, c3, kl, ka, kc⟩, ⟨(i64_of w0).1, (i64_of w0).2, (i64_of w1).1, (i64_of w1).2, (i64_of w2).1, (i64_of w2).2, by show kl.length ≤ _; omega, h3⟩, rfl⟩
theorem acts_of (h : DataW.trod enc Try.prog W 0 sp true fuel 22 [v] = some x) :
    ∃ (l : List ActR) (A : Option Addr) (cap : Nat), v = .slice A l.length cap ∧ l.length ≤ cap ∧ cap ≤ maxLen ∧ RV W A (l.flatMap ActR.cells) ∧ ∀ a ∈ l, ActOK W a := by
  obtain ⟨rows, A, cap, rfl, h1, h2, h3, _, h5⟩ := rows_of Try.underlying22 (k := 5) (by kernel_rfl) (by omega) h
  obtain ⟨l, rfl, hl⟩ := map_of' ActR.cells (p := ActOK W) (vs := rows) (fun r hr => by
    obtain ⟨hlen, n, d, hd⟩ := h5 r hr
    exact act_of hlen hd)
  exact ⟨l, A, cap, by simp, by simpa using h1, h2, by simpa [List.flatMap] using h3, hl⟩
end
/-- A cell of an act. -/
theorem acts_get (l : List ActR) (k i : Nat) (hi : i < 5) : (l.flatMap ActR.cells)[k * 5 + i]? = (l[k]?).bind fun a => a.cells[i]? := by
  have := flat_get2 (rows := l.map ActR.cells) (k := 5) (by
    intro r hr
    simp only [List.mem_map] at hr
    obtain ⟨a, _, rfl⟩ := hr
    rfl) (k * 5 + i) (by omega)
  rw [show (k * 5 + i) / 5 = k by omega, show (k * 5 + i) % 5 = i by omega, List.getElem?_map] at this
  rw [List.flatMap]
  rw [this]
  cases l[k]? <;> rfl
end Go.Proofs.Ytmemkoiooanhkaa
