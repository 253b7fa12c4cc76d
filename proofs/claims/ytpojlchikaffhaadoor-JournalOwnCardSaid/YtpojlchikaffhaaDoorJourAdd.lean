/-
  The walk of a log's Add.
-/
import Derived.Test.YtpojlchikaffhaaDoorJWalk
import Derived.Deep.RegionHeld
namespace Go.Proofs.YtpojlchikaffhaaDoor
open Go.RowKit DiskP SumP PageP JourP

theorem RetJ.same {w : World} {base : Nat} {j : JL} {p : PJ} (h : JLog w base j p) (E : Int) (w' : World) (b : Below w.heap.size w w') : RetJ w base j E p (.returned (.int .i64 E)) w' := ⟨rfl, NextJ.same_below h b⟩
theorem JLog.nd {w : World} {base : Nat} {j : JL} {p : PJ} (h : JLog w base j p) (x : RecR) (hx : x.body.length ≤ 1000000) : need j.size (1 + (x.body.length : Int)) = (x.abs.nd j.y.size : Int) ∧ 1 ≤ x.abs.nd j.y.size := by
  obtain ⟨z1, z2, _⟩ := h.sizes
  have hl : x.abs.bytes.length = 1 + x.body.length := x.abs.bytes_len
  obtain ⟨n1, n2⟩ := nd_eq (size := j.y.size) (len := x.abs.bytes.length) z1 z2 (by omega)
  rw [h.fsize, show (1 : Int) + (x.body.length : Int) = ((x.abs.bytes.length : Nat) : Int) by omega]
  exact ⟨n1, n2⟩
theorem jadd_long (j : JL) (p : PJ) (x : RecR) (w : World) (base : Nat) (h : JLog w base j p) (hl : 4000 < x.body.length) :
    Calls Tryd.prog 13 #[.pointer (some ⟨j.G, 0, none⟩), .agg #[.int .u8 (x.kind.toNat : Int), .slice x.A x.body.length x.cap]] w (RetJ w base j 1 p) := by
  have d1 : decide (4000 < (x.body.length : Int)) = true := decide_eq_true (by omega)
  have HP := Lib.hid (RetJ.same h 1)
  have B1 : Below w.heap.size w (w.alloc (.cells #[.int .u8 (x.kind.toNat : Int), .slice x.A x.body.length x.cap] 40)) := (Below.refl _ _).alloc (Nat.le_refl _) _
  clear h hl
  go_enter Tryd.func13, Tryd.ntmps13
  go_wp2
  go_ret
  exact HP.out _ B1
theorem jadd_room (j : JL) (p : PJ) (x : RecR) (w : World) (base : Nat) (h : JLog w base j p) (hl : x.body.length ≤ 4000) (hr : p.half < 1 + sumNd j.y.size p.rs + x.abs.nd j.y.size) :
    Calls Tryd.prog 13 #[.pointer (some ⟨j.G, 0, none⟩), .agg #[.int .u8 (x.kind.toNat : Int), .slice x.A x.body.length x.cap]] w (RetJ w base j 5 p) := by
  have d1 : decide (4000 < (x.body.length : Int)) = false := decide_eq_false (by omega)
  have HP := Lib.hid (RetJ.same h 5)
  have B1 : Below w.heap.size w (w.alloc (.cells #[.int .u8 (x.kind.toNat : Int), .slice x.A x.body.length x.cap] 40)) := (Below.refl _ _).alloc (Nat.le_refl _) _
  have NC := fun w1 (hb : Below w.heap.size w w1) => jneed_calls j x.kind x.A x.body.length x.cap w1 base (h.ok.below hb) (by omega)
  have LC := fun w1 (hb : Below w.heap.size w w1) => jleft_calls j p w1 base (h.below hb)
  have HN := (h.nd x (by omega)).1
  rw [HN] at NC
  have d2 : decide (leftN j.y.size p < (x.abs.nd j.y.size : Int)) = true := decide_eq_true (by unfold leftN; omega)
  have b1 := (Blk.new w 40 #[.int .u8 (x.kind.toNat : Int), .slice x.A x.body.length x.cap])
  generalize x.abs.nd j.y.size = nd at *
  generalize leftN j.y.size p = lf at *
  clear h hl hr HN
  go_enter Tryd.func13, Tryd.ntmps13
  go_wp2_with fail
  refine (NC _ B1).mono ?_
  clear NC
  rintro e w2 ⟨rfl, b2⟩
  have B2 := B1.trans (b2.mono B1.size)
  go_wp2_with fail
  refine (LC _ B2).mono ?_
  clear LC
  rintro e w3 ⟨rfl, q, rfl⟩
  have HF := Lib.hid (HP.out (w2.drewN q) ⟨B2.os, B2.tape, B2.output, B2.size, B2.block⟩)
  clear HP
  go_wp2
  go_ret
  exact HF.out
end Go.Proofs.YtpojlchikaffhaaDoor
