/-
  Walks: the document's Answers: where each ask's answer stands.
-/
import Derived.Test.YtiokbebodblhaaaGreatDoorTraceOf
import Derived.Test.YtiokbebodblhaaaGreatDoorTraceDf
import Derived.Deep.CutRange
import Derived.Deep.CutBlock
namespace Go.Proofs.YtiokbebodblhaaaGreatDoor
open Go.RowKit TraceP
attribute [local go_sem] Row.val

def pC (p : Int × Int) : List Value := [.int .i64 p.1, .int .i64 p.2]
theorem pC_len : ∀ p, (pC p).length = 2 := fun _ => rfl
theorem pC_one (p : Int × Int) : ∀ u ∈ pC p, u.oneCell' = true := fun u hu => by
  rcases List.mem_cons.1 hu with rfl | hu
  · rfl
  · rw [List.mem_singleton.1 hu]; rfl
theorem info_pair : (Tryz.prog.info? 72).map (fun i => (i.zero, i.size, i.bytes)) = some (some (.agg #[.int .i64 0, .int .i64 0]), 2, 16) := by kernel_rfl
theorem el_pair : El Tryz.prog 70 72 (.agg #[.int .i64 0, .int .i64 0]) 2 16 := ⟨info_parts info_pair, Tryz.underlying70, rfl, by decide⟩
/-- Pairs in a row of one's own. -/
abbrev Prs (B : Nat) (w : World) (v : Value) (l : List (Int × Int)) : Prop := w.ownsRow B 72 2 v l.length (fl pC l)
theorem Prs.nil (B : Nat) (w : World) : Prs B w (.slice none 0 0) [] := ⟨rfl, .inl ⟨rfl, rfl⟩⟩
theorem endsB_beq (e : Evt) (nd wh : Int) : endsB e nd wh = ((e.node == nd) && ((e.kind == 16) || ((e.who == wh) && ((e.kind == 6) || (e.kind == 7) || (e.kind == 10))))) := rfl
set_option maxRecDepth 100000 in
set_option maxHeartbeats 1600000 in
theorem ends_calls (e : EvtR) (w : World) (nd wh : Int) :
    Calls Tryz.prog 59 #[.agg e.cells.toArray, .int .i64 nd, .int .i64 wh] w fun r w' => r = .returned (.bool (endsB e.abs nd wh)) ∧ Below w.heap.size w w' := by
  have bE := Blk.new w 45 e.cells.toArray
  have B1 := below_new w (.cells e.cells.toArray 45)
  obtain ⟨res, hr⟩ : ∃ b, b = endsB e.abs nd wh := ⟨_, rfl⟩
  rw [← hr]
  rw [endsB_beq] at hr
  change res = ((e.node == nd) && ((e.kind == 16) || ((e.who == wh) && ((e.kind == 6) || (e.kind == 7) || (e.kind == 10))))) at hr
  have f0 := bE.at_ (i := 0) (v := .int .i64 e.kind) rfl
  have f2 := bE.at_ (i := 2) (v := .int .i64 e.node) rfl
  have f3 := bE.at_ (i := 3) (v := .int .i64 e.who) rfl
  clear bE
  cases h1 : (e.node == nd) <;> cases h2 : (e.kind == 16) <;> cases h3 : (e.who == wh) <;> cases h4 : (e.kind == 6) <;> cases h5 : (e.kind == 7) <;> cases h6 : (e.kind == 10)
  all_goals
    rw [h1, h2, h3, h4, h5, h6] at hr
    replace hr := Lib.hid hr
    go_enter Tryz.func59, Tryz.ntmps59
    go_wp2_with fail
    go_ret
    exact ⟨by rw [hr.out]; rfl, B1⟩
end Go.Proofs.YtiokbebodblhaaaGreatDoor
