/-
  Walk: the program's Answers: its book of who waits.
-/
import Derived.Test.YtiokbebodblhaaaGreatDoorTraceAd
import Derived.Test.YtiokbebodblhaaaGreatDoorTMap
namespace Go.Proofs.YtiokbebodblhaaaGreatDoor
open Go.RowKit Go.Maps Go.WideMaps TraceP
attribute [local go_sem] Row.val

/-- What the map says of the book. -/
def BookF (F : Value → Option Int) (ask : Book) : Prop := ∀ a b, F (pv a b) = (ask a b).map fun k => (k : Int)
theorem BookF.set {F : Value → Option Int} {ask : Book} (h : BookF F ask) (nd wh : Int) (v : Option Nat) : BookF (setV F (pv nd wh) (v.map fun k => (k : Int))) (setB ask nd wh v) := fun a b => by
  by_cases e : a = nd ∧ b = wh
  · obtain ⟨rfl, rfl⟩ := e
    rw [setV_same]
    simp [setB]
  · rw [setV_other _ (fun q => e (pv_inj q)), h a b]
    unfold setB
    rw [if_neg e]
theorem BookF.drop {F : Value → Option Int} {ask : Book} (h : BookF F ask) (nd : Int) : BookF (dropV F nd) (dropB ask nd) := fun a b => by
  rw [dropV_pv]
  unfold dropB
  split
  · rfl
  · exact h a b
theorem fl_pC_set : ∀ (out : List (Int × Int)) (j : Nat) (i : Int), j < out.length → (fl pC out).set (j * 2 + 1) (.int .i64 i) = fl pC (setEnd out j i)
  | [], _, _, h => absurd h (Nat.not_lt_zero _)
  | p :: out, 0, i, _ => rfl
  | p :: out, j + 1, i, h => by
    have ih := fl_pC_set out j i (by simpa using h)
    have e1 : fl pC (p :: out) = .int .i64 p.1 :: .int .i64 p.2 :: fl pC out := rfl
    rw [e1, show (j + 1) * 2 + 1 = (j * 2 + 1) + 1 + 1 by omega, List.set_cons_succ, List.set_cons_succ, ih]
    rfl
theorem Prs.set {B : Nat} {w : World} {v : Value} {out : List (Int × Int)} (h : Prs B w v out) {j : Nat} (hj : j < out.length) (i : Int) :
    ∃ g cap, v = .slice (some ⟨g, 0, none⟩) out.length cap ∧ B ≤ g ∧ g < w.heap.size ∧ w.frozen? ⟨g, j * 2 + 1, none⟩ = false ∧ (∃ u, w.cell? ⟨g, j * 2 + 1, none⟩ = some u) ∧ Prs B (w.setCell ⟨g, j * 2 + 1, none⟩ (.int .i64 i)) v (setEnd out j i) := by
  have hl := h.1
  rcases h.2 with ⟨_, h0⟩ | ⟨g, cap, cur, hv, h1, h2, h3, h4, h5, h6⟩
  · omega
  have hb : Blk w g 72 cur := h2
  have hsz : j * 2 + 1 < cur.size := by rw [h5]; omega
  have el : (setEnd out j i).length = out.length := by unfold setEnd; simp
  refine ⟨g, cap, hv, h1, hb.lt, hb.frozen _, ⟨cur[j * 2 + 1], (hb.cell _).trans (by simp [hsz])⟩, ?_, .inr ⟨g, cap, cur.setIfInBounds (j * 2 + 1) (.int .i64 i), ?_, h1, hb.set_ _ _, by rw [el]; exact h3, h4, by simpa using h5, ?_⟩⟩
  · rw [fl_len pC_len]
  · rw [el]; exact hv
  · rw [el, Array.toList_setIfInBounds, List.take_set, h6]
    exact fl_pC_set out j i hj
end Go.Proofs.YtiokbebodblhaaaGreatDoor
