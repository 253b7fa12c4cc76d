/-
  How great a log's numbers get behind some calls.
-/
import Derived.Test.YtdcjljlppeighaaDoorPurgeRun
import Derived.Test.YtdcjljlppeighaaDoorPurgePlainB
namespace Go.Proofs.YtdcjljlppeighaaDoor
open PurgeP

theorem step_now {p : PLog} (h : p.OK) (a : ActR) : (stepP p a).OK ∧ (stepP p a).now ≤ p.now + 1 := by
  unfold stepP
  split
  · refine ⟨h.add _ _, ?_⟩
    unfold PLog.addS
    split
    · unfold PLog.now
      simp only [List.length_append, List.length_singleton]
      omega
    · omega
  · split
    · refine ⟨h.forget _, ?_⟩
      by_cases hc : 0 ≤ a.n ∧ a.n ≤ p.now
      · rw [(for_floor h hc.1 hc.2).2.2]; omega
      · unfold PLog.forS
        rw [if_pos (by omega)]
        omega
    · exact ⟨h, by omega⟩
theorem run_now (l : List ActR) : (runP l).OK ∧ (runP l).now ≤ l.length := by
  have : ∀ (l : List ActR) (p : PLog), p.OK → (l.foldl stepP p).OK ∧ (l.foldl stepP p).now ≤ p.now + l.length := by
    intro l
    induction l with
    | nil => intro p h; exact ⟨h, by simp⟩
    | cons a l ih =>
      intro p h
      obtain ⟨h1, h2⟩ := step_now h a
      obtain ⟨h3, h4⟩ := ih _ h1
      rw [List.foldl_cons]
      refine ⟨h3, ?_⟩
      simp only [List.length_cons]
      omega
  have h := this l PLog.new PLog.OK.new
  refine ⟨h.1, ?_⟩
  have h2 := h.2
  have e : PLog.new.now = 0 := rfl
  rw [e] at h2
  unfold runP
  omega
end Go.Proofs.YtdcjljlppeighaaDoor
