/-
  Walks of the document: are two events alike; does one fit. Printed by docfit.py.
-/
import Derived.Test.YtiokbebodblhaaaGreatDoorTraceDo
namespace Go.Proofs.YtiokbebodblhaaaGreatDoor
open Go.RowKit TraceP

theorem all_eq (a b : Evt) : ((bstr (spT (allW a))).toList == (bstr (spT (allW b))).toList) = sm a b := by
  rw [bstr_list, bstr_list]
  cases hq : sm a b with
  | true => rw [(sm_iff _ _).1 hq]; exact beq_iff_eq.2 rfl
  | false =>
    cases hc : spT (allW a) == spT (allW b) with
    | false => rfl
    | true =>
      rw [sm_true ((all_inj a b).1 (beq_iff_eq.1 hc))] at hq
      cases hq
theorem allC_grow (w1 r0 : World) {e : EvtR} (h : EvtOK w1 e) (hp : ShortE e.abs) : Calls Tryz.prog 48 #[.agg e.cells.toArray] (grow w1 r0) fun x w' => x = .returned (.string (bstr (spT (allW e.abs)))) ∧ ∃ r', w' = grow w1 r' :=
  calls_grow (all_calls e (grow w1 r0) (h.below (grow_below w1 r0)) hp)
theorem load_evt {w1 : World} {b : Nat} {e : EvtR} (bE : Blk w1 b 45 e.cells.toArray) : Hid (∀ r, (Instr.loadAt 45 (.pointer (some ⟨b, 0, none⟩))).run Tryz.prog (grow w1 r) = .ok (.agg e.cells.toArray) (grow w1 r)) := Lib.hid fun r =>
  run_loadAt_mid (grow w1 r) b 0 45 e.cells _ (fun j v hv => by rw [Nat.zero_add, (bE.below (grow_below w1 r) bE.lt).cell]; simpa using hv) Tryz.underlying45 (by kernel_rfl) (by kernel_rfl)
set_option maxRecDepth 100000 in
set_option maxHeartbeats 1600000 in
theorem dalike_calls (w : World) (a b : EvtR) (ha : EvtOK w a) (hb : EvtOK w b) (pa : ShortE a.abs) (pb : ShortE b.abs) :
    Calls Tryz.prog 17 #[.agg a.cells.toArray, .agg b.cells.toArray] w fun r w' => r = .returned (.bool (sm a.abs b.abs)) ∧ Below w.heap.size w w' := by
  have bA := (Blk.new w 45 a.cells.toArray).alloc (.cells b.cells.toArray 45)
  have bB := Blk.new (w.alloc (.cells a.cells.toArray 45)) 45 b.cells.toArray
  rw [show (w.alloc (.cells a.cells.toArray 45)).heap.size = w.heap.size + 1 by simp] at bB
  have B := (below_new w (.cells a.cells.toArray 45)).trans ((below_new (w.alloc (.cells a.cells.toArray 45)) (.cells b.cells.toArray 45)).mono (by simp))
  have he := all_eq a.abs b.abs
  go_enter Tryz.func17, Tryz.ntmps17
  go_upto_region 1 with (fail)
  generalize (w.alloc (.cells a.cells.toArray 45)).alloc (.cells b.cells.toArray 45) = w1 at *
  have ha1 := ha.below B
  have hb1 := hb.below B
  have hla := load_evt bA
  have hlb := load_evt bB
  refine wp_region_grow (by kernel_rfl) (by kernel_rfl) ?_
  with_reducible refine wpQuiet_load (by kernel_rfl) 45 (.tmp 2) rfl (.pointer (some ⟨w.heap.size, 0, none⟩)) (by kernel_rfl) (.agg a.cells.toArray) (by rintro w' ⟨r, rfl⟩; exact hla.out r) ?_
  go_frame
  go_big_quiet_step (first | (go_at_call 48; exact allC_grow _ _ ha1 pa))
  with_reducible refine wpQuiet_load (by kernel_rfl) 45 (.tmp 3) rfl (.pointer (some ⟨w.heap.size + 1, 0, none⟩)) (by kernel_rfl) (.agg b.cells.toArray) (by rintro w' ⟨r, rfl⟩; exact hlb.out r) ?_
  go_frame
  go_big_quiet_step (first | (go_at_call 48; exact allC_grow _ _ hb1 pb))
  repeat (go_big_quiet_step (fail))
  refine wpQuiet_nil ?_
  rintro w' ⟨r, rfl⟩
  have BB := B.trans ((grow_below w1 r).mono B.size)
  clear hla hlb
  go_wp2
  go_ret
  exact ⟨rfl, BB⟩
theorem dalikeC_grow (w1 r0 : World) {a b : EvtR} (ha : EvtOK w1 a) (hb : EvtOK w1 b) (pa : ShortE a.abs) (pb : ShortE b.abs) : Calls Tryz.prog 17 #[.agg a.cells.toArray, .agg b.cells.toArray] (grow w1 r0) fun x w' => x = .returned (.bool (sm a.abs b.abs)) ∧ ∃ r', w' = grow w1 r' :=
  calls_grow (dalike_calls (grow w1 r0) a b (ha.below (grow_below w1 r0)) (hb.below (grow_below w1 r0)) pa pb)
theorem ShortE.only {e : Evt} (h : ShortE e) : ShortE (onlyE e) := by
  have z := zEvt_p (k := 0) (t := 0) (n := 0) (w := 0) ⟨by decide, by decide⟩ i64_zero i64_zero i64_zero
  refine ⟨?_, ?_, ?_, ?_, ?_, ?_, ?_, ?_⟩
  · unfold onlyE; dsimp only; split; exact h.object; exact z.object
  · unfold onlyE; dsimp only; split; exact h.req; exact z.req
  · unfold onlyE; dsimp only; split; exact h.met; exact z.met
  · unfold onlyE; dsimp only; split; exact h.ans; exact z.ans
  · unfold onlyE; dsimp only; split; exact h.fet; exact z.fet
  · unfold onlyE; dsimp only; split; exact h.rep; exact z.rep
  · unfold onlyE; dsimp only; split; exact h.bytes; exact z.bytes
  · unfold onlyE; dsimp only; split; exact h.keys; exact z.keys
end Go.Proofs.YtiokbebodblhaaaGreatDoor
