/-
  The acts that come in, and the case that holds them, opened.
-/
import Derived.Test.YtfdecpmdicnfbaaDoorOpen
import Derived.Test.YtfdecpmdicnfbaaDoorDiskMem
namespace Go.Proofs.YtfdecpmdicnfbaaDoor
open Go.ChangeShapes Go.WideShapes Go.ChangeAt Go.RowKit DiskP

/-- An act, as it comes in. -/
structure OpR where
  kind : UInt8
  at_ : Int
  type : UInt8
  mark : Int
  bytes : List UInt8
  ba : Option Addr
  bc : Nat
  keep : List Bool
  ka : Option Addr
  kc : Nat
def OpR.cells (o : OpR) : List Value := [.int .u8 (o.kind.toNat : Int), .int .i64 o.at_, .int .u8 (o.type.toNat : Int), .int .i64 o.mark, .slice o.ba o.bytes.length o.bc, .slice o.ka o.keep.length o.kc]
/-- Its numbers are numbers of 64 bits, its bytes and flags lie in memory. -/
structure OpOK (W : World) (o : OpR) : Prop where
  a1 : -9223372036854775808 ≤ o.at_
  a2 : o.at_ ≤ 9223372036854775807
  m1 : -9223372036854775808 ≤ o.mark
  m2 : o.mark ≤ 9223372036854775807
  bl : o.bytes.length ≤ o.bc
  bc : o.bc ≤ 9223372036854775807
  kl : o.keep.length ≤ 9223372036854775807
  rb : RB W o.ba o.bytes
  rk : RV W o.ka (o.keep.map Value.bool)
theorem map_of' {α β : Type} {p : α → Prop} (f : α → β) {vs : List β} (h : ∀ u ∈ vs, ∃ a, p a ∧ u = f a) : ∃ l : List α, vs = l.map f ∧ ∀ a ∈ l, p a := by
  induction vs with
  | nil => exact ⟨[], rfl, by simp⟩
  | cons u vs ih =>
    obtain ⟨a, ha, rfl⟩ := h u (by simp)
    obtain ⟨l, rfl, hl⟩ := ih (fun u hu => h u (by simp [hu]))
    exact ⟨a :: l, rfl, by simpa using ⟨ha, hl⟩⟩
theorem i64_of {x : Int} (h : (Lit.int .i64 x).wf = true) : -9223372036854775808 ≤ x ∧ x ≤ 9223372036854775807 := by
  simpa [Lit.wf, IntKind.min, IntKind.max, IntKind.signed, IntKind.bits] using h
theorem len3 {r : List Value} (h : r.length = 3) : ∃ a b c, r = [a, b, c] := by
  match r, h with
  | [a, b, c], _ => exact ⟨a, b, c, rfl⟩
theorem len6v {r : List Value} (h : r.length = 6) : ∃ a b c d e f, r = [a, b, c, d, e, f] := by
  match r, h with
  | [a, b, c, d, e, f], _ => exact ⟨a, b, c, d, e, f, rfl⟩
section
variable {H : Type} {enc : TypeId × Value → H} {W : World} {sp : Nat → Bool} {v : Value} {x : DataW H × List MemPlace} {fuel : Nat}
theorem op_of {r : List Value} (hr : r.length = 6) (h : DataW.trod enc Tryd.prog W 0 sp true fuel 46 r = some x) : ∃ o : OpR, OpOK W o ∧ r = o.cells := by
  obtain ⟨v0, v1, v2, v3, v4, v5, rfl⟩ := len6v hr
  obtain ⟨xs, n, rfl, _, _, hl, hf⟩ := DataW.trod_struct Tryd.underlying46 h
  have c_bool : Tryd.prog.cellsOf 44 = 1 := by kernel_rfl
  have c_sluint8 : Tryd.prog.cellsOf 27 = 1 := by kernel_rfl
  have c_int : Tryd.prog.cellsOf 3 = 1 := by kernel_rfl
  have c_int64 : Tryd.prog.cellsOf 2 = 1 := by kernel_rfl
  have c_uint8 : Tryd.prog.cellsOf 5 = 1 := by kernel_rfl
  have l : xs.length = 6 := hl
  have f0 : DataW.trod enc Tryd.prog W 0 sp true n 5 (List.take (Tryd.prog.cellsOf 5) (List.drop 0 [v0, v1, v2, v3, v4, v5])) = xs[0]? := hf 0 _ rfl
  rw [c_uint8, List.getElem?_eq_getElem (by omega)] at f0
  replace f0 : DataW.trod enc Tryd.prog W 0 sp true n 5 [v0] = some _ := f0
  have f1 : DataW.trod enc Tryd.prog W 0 sp true n 3 (List.take (Tryd.prog.cellsOf 3) (List.drop 1 [v0, v1, v2, v3, v4, v5])) = xs[1]? := hf 1 _ rfl
  rw [c_int, List.getElem?_eq_getElem (by omega)] at f1
  replace f1 : DataW.trod enc Tryd.prog W 0 sp true n 3 [v1] = some _ := f1
  have f2 : DataW.trod enc Tryd.prog W 0 sp true n 5 (List.take (Tryd.prog.cellsOf 5) (List.drop 2 [v0, v1, v2, v3, v4, v5])) = xs[2]? := hf 2 _ rfl
  rw [c_uint8, List.getElem?_eq_getElem (by omega)] at f2
  replace f2 : DataW.trod enc Tryd.prog W 0 sp true n 5 [v2] = some _ := f2
  have f3 : DataW.trod enc Tryd.prog W 0 sp true n 2 (List.take (Tryd.prog.cellsOf 2) (List.drop 3 [v0, v1, v2, v3, v4, v5])) = xs[3]? := hf 3 _ rfl
  rw [c_int64, List.getElem?_eq_getElem (by omega)] at f3
  replace f3 : DataW.trod enc Tryd.prog W 0 sp true n 2 [v3] = some _ := f3
  have f4 : DataW.trod enc Tryd.prog W 0 sp true n 27 (List.take (Tryd.prog.cellsOf 27) (List.drop 4 [v0, v1, v2, v3, v4, v5])) = xs[4]? := hf 4 _ rfl
  rw [c_sluint8, List.getElem?_eq_getElem (by omega)] at f4
  replace f4 : DataW.trod enc Tryd.prog W 0 sp true n 27 [v4] = some _ := f4
  have f5 : DataW.trod enc Tryd.prog W 0 sp true n 44 (List.take (Tryd.prog.cellsOf 44) (List.drop 5 [v0, v1, v2, v3, v4, v5])) = xs[5]? := hf 5 _ rfl
  rw [c_bool, List.getElem?_eq_getElem (by omega)] at f5
  replace f5 : DataW.trod enc Tryd.prog W 0 sp true n 44 [v5] = some _ := f5
  obtain ⟨z0, e0, _, w0⟩ := DataW.trod_int Tryd.underlying5 f0
  obtain ⟨b0, rfl⟩ := u8_of' w0
  injection e0 with e0
  obtain ⟨z1, e1, _, w1⟩ := DataW.trod_int Tryd.underlying3 f1
  injection e1 with e1
  obtain ⟨z2, e2, _, w2⟩ := DataW.trod_int Tryd.underlying5 f2
  obtain ⟨b2, rfl⟩ := u8_of' w2
  injection e2 with e2
  obtain ⟨z3, e3, _, w3⟩ := DataW.trod_int Tryd.underlying2 f3
  injection e3 with e3
  obtain ⟨l4, a4, c4, rfl, h4, m4, r4⟩ := bytes_of Tryd.underlying27 Tryd.underlying5 (by kernel_rfl) f4
  unfold maxLen at m4
  obtain ⟨l5, a5, c5, rfl, h5, m5, r5⟩ := bools_of Tryd.underlying44 Tryd.underlying4 (by kernel_rfl) f5
  unfold maxLen at m5
  subst e0 e1 e2 e3
  exact ⟨⟨b0, z1, b2, z3, l4, a4, c4, l5, a5, c5⟩, ⟨(i64_of w1).1, (i64_of w1).2, (i64_of w3).1, (i64_of w3).2, h4, by show c4 ≤ _; omega, by show l5.length ≤ _; omega, r4, r5⟩, rfl⟩
theorem ops_of (h : DataW.trod enc Tryd.prog W 0 sp true fuel 33 [v] = some x) :
    ∃ (l : List OpR) (A : Option Addr) (cap : Nat), v = .slice A l.length cap ∧ l.length ≤ cap ∧ cap ≤ maxLen ∧ RV W A (l.flatMap OpR.cells) ∧ ∀ o ∈ l, OpOK W o := by
  obtain ⟨rows, A, cap, rfl, h1, h2, h3, _, h5⟩ := rows_of Tryd.underlying33 (k := 6) (by kernel_rfl) (by omega) h
  obtain ⟨l, rfl, hl⟩ := map_of' OpR.cells (p := OpOK W) (vs := rows) (fun r hr => by
    obtain ⟨hlen, n, d, hd⟩ := h5 r hr
    exact op_of hlen hd)
  exact ⟨l, A, cap, by simp, by simpa using h1, h2, by simpa [List.flatMap] using h3, hl⟩
end
/-- A cell of an act. -/
theorem ops_get (l : List OpR) (k i : Nat) (hi : i < 6) : (l.flatMap OpR.cells)[k * 6 + i]? = (l[k]?).bind fun a => a.cells[i]? := by
  have := flat_get2 (rows := l.map OpR.cells) (k := 6) (by
    intro r hr
    simp only [List.mem_map] at hr
    obtain ⟨a, _, rfl⟩ := hr
    rfl) (k * 6 + i) (by omega)
  rw [show (k * 6 + i) / 6 = k by omega, show (k * 6 + i) % 6 = i by omega, List.getElem?_map] at this
  rw [List.flatMap]
  rw [this]
  cases l[k]? <;> rfl
/-- A case, as it comes in. -/
structure CaseR where
  sectors : Int
  size : Int
  l : List OpR
  la : Option Addr
  lc : Nat
def CaseR.cells (z : CaseR) : List Value := [.int .i64 z.sectors, .int .i64 z.size, .slice z.la z.l.length z.lc]
structure CaseOK (W : World) (z : CaseR) : Prop where
  s1 : -9223372036854775808 ≤ z.sectors
  s2 : z.sectors ≤ 9223372036854775807
  z1 : -9223372036854775808 ≤ z.size
  z2 : z.size ≤ 9223372036854775807
  ll : z.l.length ≤ 9223372036854775807
  rv : RV W z.la (z.l.flatMap OpR.cells)
  ok : ∀ o ∈ z.l, OpOK W o
section
variable {H : Type} {enc : TypeId × Value → H} {W : World} {v : Value} {d : DataW H} {p : List MemPlace} {base : Nat}
theorem open_op (hv : Value.okWide Tryd.prog W .any base 46 v) (h : DataW.Trod enc Tryd.prog W 0 (fun _ => true) true 46 v d p) : ∃ o : OpR, OpOK W o ∧ v = .agg o.cells.toArray := by
  obtain ⟨cs, rfl, hsz⟩ := okWide_struct Tryd.underlying46 hv
  rw [show Tryd.prog.cellsOf 46 = 6 by kernel_rfl] at hsz
  obtain ⟨fuel, hf⟩ := h
  obtain ⟨o, ho, e⟩ := op_of (r := cs.toList) (by simpa using hsz) hf
  exact ⟨o, ho, by rw [← e]⟩
theorem case_cells {sp : Nat → Bool} {x : DataW H × List MemPlace} {fuel : Nat} {r : List Value} (hr : r.length = 3) (h : DataW.trod enc Tryd.prog W 0 sp true fuel 35 r = some x) : ∃ z : CaseR, CaseOK W z ∧ r = z.cells := by
  obtain ⟨v0, v1, v2, rfl⟩ := len3 hr
  obtain ⟨xs, n, rfl, _, _, hl, hf⟩ := DataW.trod_struct Tryd.underlying35 h
  have c_mandolinelaw20Op : Tryd.prog.cellsOf 33 = 1 := by kernel_rfl
  have c_int : Tryd.prog.cellsOf 3 = 1 := by kernel_rfl
  have l : xs.length = 3 := hl
  have f0 : DataW.trod enc Tryd.prog W 0 sp true n 3 (List.take (Tryd.prog.cellsOf 3) (List.drop 0 [v0, v1, v2])) = xs[0]? := hf 0 _ rfl
  rw [c_int, List.getElem?_eq_getElem (by omega)] at f0
  replace f0 : DataW.trod enc Tryd.prog W 0 sp true n 3 [v0] = some _ := f0
  have f1 : DataW.trod enc Tryd.prog W 0 sp true n 3 (List.take (Tryd.prog.cellsOf 3) (List.drop 1 [v0, v1, v2])) = xs[1]? := hf 1 _ rfl
  rw [c_int, List.getElem?_eq_getElem (by omega)] at f1
  replace f1 : DataW.trod enc Tryd.prog W 0 sp true n 3 [v1] = some _ := f1
  have f2 : DataW.trod enc Tryd.prog W 0 sp true n 33 (List.take (Tryd.prog.cellsOf 33) (List.drop 2 [v0, v1, v2])) = xs[2]? := hf 2 _ rfl
  rw [c_mandolinelaw20Op, List.getElem?_eq_getElem (by omega)] at f2
  replace f2 : DataW.trod enc Tryd.prog W 0 sp true n 33 [v2] = some _ := f2
  obtain ⟨z0, e0, _, w0⟩ := DataW.trod_int Tryd.underlying3 f0
  injection e0 with e0
  obtain ⟨z1, e1, _, w1⟩ := DataW.trod_int Tryd.underlying3 f1
  injection e1 with e1
  obtain ⟨l2, a2, c2, rfl, h2, m2, r2, k2⟩ := ops_of f2
  unfold maxLen at m2
  subst e0 e1
  exact ⟨⟨z0, z1, l2, a2, c2⟩, ⟨(i64_of w0).1, (i64_of w0).2, (i64_of w1).1, (i64_of w1).2, by show l2.length ≤ _; omega, r2, k2⟩, rfl⟩
theorem open_case (hv : Value.okWide Tryd.prog W .any base 35 v) (h : DataW.Trod enc Tryd.prog W 0 (fun _ => true) true 35 v d p) : ∃ z : CaseR, CaseOK W z ∧ v = .agg z.cells.toArray := by
  obtain ⟨cs, rfl, hsz⟩ := okWide_struct Tryd.underlying35 hv
  rw [show Tryd.prog.cellsOf 35 = 3 by kernel_rfl] at hsz
  obtain ⟨fuel, hf⟩ := h
  obtain ⟨z, hz, e⟩ := case_cells (r := cs.toList) (by simpa using hsz) hf
  exact ⟨z, hz, by rw [← e]⟩
end
end Go.Proofs.YtfdecpmdicnfbaaDoor
