/-
  A region that draws its order, whose one store (operation number z) waits for all the loads: what the loads read need hold till that store only.
-/
import Derived.Deep.RegionHeld
import Derived.WalkKit
import Derived.StillTail
namespace Go.Proofs.Ytmemkoiooanhkaa
open Go.RowKit

section
variable {P : Program} {ops : Array Oper} {Q : Exit → Act → World → Prop} {md : Region.Mode} {S : World → Prop} {z : Nat}
/-- Whatever order is picked from here on; S holds behind each operation till number z has come up. -/
def wpTill (P : Program) (md : Region.Mode) (ops : Array Oper) (Q : Exit → Act → World → Prop) (S : World → Prop) (z : Nat) : Nat → Array Bool → Act → World → Prop
  | 0, listed, a, w => Region.ready md ops listed = [] ∧ Q .normal a w
  | fuel + 1, listed, a, w =>
    (Region.ready md ops listed = [] → Q .normal a w) ∧
    ∀ i ∈ Region.ready md ops listed, wpOp P ops Q i (fun a' w' => ((listed.setIfInBounds i true).getD z false = true ∨ S w') ∧ wpTill P md ops Q S z fuel (listed.setIfInBounds i true) a' w') a w
theorem wpAny_of_till (fuel : Nat) : ∀ (listed : Array Bool) (a : Act) (w : World), wpTill P md ops Q S z fuel listed a w → wpAny P md ops Q fuel listed a w := by
  induction fuel with
  | zero => intro _ _ _ h; exact h
  | succ fuel ih => intro _ _ _ h; exact ⟨h.1, fun i hi => wpOp_mono (fun a' w' h' => ih _ a' w' h'.2) (h.2 i hi)⟩
theorem not_ready {i : Nat} {listed : Array Bool} (hi : listed.getD i true = false) (hz : Region.waitsFor md ops z i = true) : z ∉ Region.ready md ops listed := by
  intro h
  obtain ⟨oz, hoz, e, he, hb, heq⟩ := Region.waitsFor_spec hz
  obtain ⟨_, o, ho, hall⟩ := mem_ready.1 h
  rw [hoz] at ho
  injection ho with ho
  subst ho
  have h1 := hall e he hb
  rw [heq, getD_both hi] at h1
  cases h1
/-- It may be taken first, if z waits for it. -/
theorem wpTill_first {i : Nat} {oi : Oper} {v : Value} (hi : ops[i]? = some oi) (hsel : ∀ (j : Nat) (o : Oper) cs b, ops[j]? = some o → o.op ≠ .select cs b)
    (hQ : ∀ c a w, Q (.panic c) (a.put oi.dst v) w → Q (.panic c) a w) (hzi : Region.waitsFor md ops z i = true) (hne : z ≠ i) (fuel : Nat) :
    ∀ (listed : Array Bool) (a : Act) (w : World), listed.getD z false = false →
      (∀ j oj, ops[j]? = some oj → j ≠ i → listed.getD j true = false → (∀ e ∈ oj.after, Region.binds md e = true → e.on ≠ i) → oi.apart ops oj = true) →
      i ∈ Region.ready md ops listed → YieldsIf P ops S oi v a → S w →
      wpTill P md ops Q S z fuel (listed.setIfInBounds i true) (a.put oi.dst v) w → wpTill P md ops Q S z (fuel + 1) listed a w := by
  induction fuel with
  | zero =>
    intro listed a w hz _ hr hy hS H
    refine ⟨fun h => (by rw [h] at hr; cases hr), fun j hj => ?_⟩
    by_cases hji : j = i
    · subst hji; exact hy.wpOp hi hS ⟨.inr hS, H⟩
    · have := ready_mono hj hji
      rw [H.1] at this
      cases this
  | succ fuel ih =>
    intro listed a w hz hfree hr hy hS H
    refine ⟨fun h => (by rw [h] at hr; cases hr), fun j hj => ?_⟩
    by_cases hji : j = i
    · subst hji; exact hy.wpOp hi hS ⟨.inr hS, H⟩
    · have hil := (mem_ready.1 hr).1
      have hjz : j ≠ z := fun e => not_ready hil hzi (e ▸ hj)
      obtain ⟨hjun, oj, hoj, hall⟩ := mem_ready.1 hj
      have hnot : ∀ e ∈ oj.after, Region.binds md e = true → e.on ≠ i := fun e he hb heq => by
        have h1 := hall e he hb
        rw [heq, getD_both hil] at h1
        cases h1
      have h2 := wpOp_putIf hoj (hfree j oj hoj hji hjun hnot) (fun cs b => hsel i oi cs b hi) (fun cs b => hsel j oj cs b hoj) hQ hy (H.2 j (ready_mono hj hji))
      refine wpOp_mono (fun a' w' h3 => ?_) h2
      obtain ⟨hy', hSor, hrest⟩ := h3
      have hz' : (listed.setIfInBounds j true).getD z false = false := by rw [getD_set_ne false hjz]; exact hz
      have hS' : S w' := by
        rcases hSor with h | h
        · rw [getD_set_ne false hjz, getD_set_ne false (Ne.symm hne), hz] at h; cases h
        · exact h
      refine ⟨.inr hS', ih (listed.setIfInBounds j true) a' w' hz' (fun k ok hk hki hun hno => hfree k ok hk hki ?_ hno) (ready_mono hr (Ne.symm hji)) hy' hS' ?_⟩
      · by_cases hjk : j = k
        · subst hjk; exact hjun
        · rw [getD_set_ne true hjk] at hun; exact hun
      · rw [Array.setIfInBounds_comm _ _ hji]
        exact hrest
theorem wpTill_take {i : Nat} {oi : Oper} {v : Value} {fuel : Nat} {listed : Array Bool} {a : Act} {w : World} (hi : ops[i]? = some oi)
    (hs : Region.noSelect ops = true) (hf : Region.free md ops listed i = true) (hr : (Region.ready md ops listed).contains i = true) (hzi : Region.waitsFor md ops z i = true) (hne : decide (z ≠ i) = true) (hz : listed.getD z false = false)
    (hQ : ∀ c a w, Q (.panic c) (a.put oi.dst v) w → Q (.panic c) a w) (hy : YieldsIf P ops S oi v a) (hS : S w)
    (h : wpTill P md ops Q S z fuel (listed.setIfInBounds i true) (a.put oi.dst v) w) : wpTill P md ops Q S z (fuel + 1) listed a w :=
  wpTill_first hi (Region.noSelect_spec hs) hQ hzi (by simpa using hne) fuel listed a w hz (Region.free_spec hi hf) (by simpa using hr) hy hS h
/-- What yields in whatever world may be taken first. -/
theorem wpTill_first_any {i : Nat} {oi : Oper} {v : Value} (hi : ops[i]? = some oi) (hsel : ∀ (j : Nat) (o : Oper) cs b, ops[j]? = some o → o.op ≠ .select cs b)
    (hQ : ∀ c a w, Q (.panic c) (a.put oi.dst v) w → Q (.panic c) a w) (hne : z ≠ i) (fuel : Nat) :
    ∀ (listed : Array Bool) (a : Act) (w : World), (listed.getD z false = true ∨ S w) →
      (∀ j oj, ops[j]? = some oj → j ≠ i → listed.getD j true = false → (∀ e ∈ oj.after, Region.binds md e = true → e.on ≠ i) → oi.apart ops oj = true) →
      i ∈ Region.ready md ops listed → YieldsIf P ops (fun _ => True) oi v a →
      wpTill P md ops Q S z fuel (listed.setIfInBounds i true) (a.put oi.dst v) w → wpTill P md ops Q S z (fuel + 1) listed a w := by
  have hzz : ∀ (listed : Array Bool), (listed.setIfInBounds i true).getD z false = listed.getD z false := fun listed => getD_set_ne false (Ne.symm hne)
  induction fuel with
  | zero =>
    intro listed a w hS _ hr hy H
    refine ⟨fun h => (by rw [h] at hr; cases hr), fun j hj => ?_⟩
    by_cases hji : j = i
    · subst hji; exact hy.wpOp hi trivial ⟨by rw [hzz]; exact hS, H⟩
    · have := ready_mono hj hji
      rw [H.1] at this
      cases this
  | succ fuel ih =>
    intro listed a w hS hfree hr hy H
    refine ⟨fun h => (by rw [h] at hr; cases hr), fun j hj => ?_⟩
    by_cases hji : j = i
    · subst hji; exact hy.wpOp hi trivial ⟨by rw [hzz]; exact hS, H⟩
    · have hil := (mem_ready.1 hr).1
      obtain ⟨hjun, oj, hoj, hall⟩ := mem_ready.1 hj
      have hnot : ∀ e ∈ oj.after, Region.binds md e = true → e.on ≠ i := fun e he hb heq => by
        have h1 := hall e he hb
        rw [heq, getD_both hil] at h1
        cases h1
      have h2 := wpOp_putIf hoj (hfree j oj hoj hji hjun hnot) (fun cs b => hsel i oi cs b hi) (fun cs b => hsel j oj cs b hoj) hQ hy (H.2 j (ready_mono hj hji))
      refine wpOp_mono (fun a' w' h3 => ?_) h2
      obtain ⟨hy', hSor, hrest⟩ := h3
      rw [Array.setIfInBounds_comm _ _ (Ne.symm hji)] at hSor
      rw [hzz] at hSor
      refine ⟨hSor, ih (listed.setIfInBounds j true) a' w' hSor (fun k ok hk hki hun hno => hfree k ok hk hki ?_ hno) (ready_mono hr (Ne.symm hji)) hy' ?_⟩
      · by_cases hjk : j = k
        · subst hjk; exact hjun
        · rw [getD_set_ne true hjk] at hun; exact hun
      · rw [Array.setIfInBounds_comm _ _ hji]
        exact hrest
theorem wpTill_take_any {i : Nat} {oi : Oper} {v : Value} {fuel : Nat} {listed : Array Bool} {a : Act} {w : World} (hi : ops[i]? = some oi)
    (hs : Region.noSelect ops = true) (hf : Region.free md ops listed i = true) (hr : (Region.ready md ops listed).contains i = true) (hne : decide (z ≠ i) = true)
    (hQ : ∀ c a w, Q (.panic c) (a.put oi.dst v) w → Q (.panic c) a w) (hy : YieldsIf P ops (fun _ => True) oi v a) (hS : listed.getD z false = true ∨ S w)
    (h : wpTill P md ops Q S z fuel (listed.setIfInBounds i true) (a.put oi.dst v) w) : wpTill P md ops Q S z (fuel + 1) listed a w :=
  wpTill_first_any hi (Region.noSelect_spec hs) hQ (by simpa using hne) fuel listed a w hS (Region.free_spec hi hf) (by simpa using hr) hy h
/-- One alone may come up. -/
theorem wpTill_one {i : Nat} {o : Oper} {fuel : Nat} {listed : Array Bool} {a : Act} {w : World} (hr : Region.ready md ops listed = [i]) (ho : ops[i]? = some o)
    (h : ∀ K : Act → World → Prop, Shut (∀ a w, ((listed.setIfInBounds i true).getD z false = true ∨ S w) → wpTill P md ops Q S z fuel (listed.setIfInBounds i true) a w → K a w) → if Region.wanted o (yielded ops a.tmps) = true then Oper.wp P o a w K Q else K (a.put o.dst undef) w) :
    wpTill P md ops Q S z (fuel + 1) listed a w :=
  ⟨fun h0 => (by rw [hr] at h0; cases h0), fun j hj => by
    rw [hr, List.mem_singleton] at hj
    subst hj
    exact wpOp_step ho fun K hK => h K fun a w h1 h2 => hK a w ⟨h1, h2⟩⟩
theorem wpTill_done {listed : Array Bool} {a : Act} {w : World} (hr : Region.ready md ops listed = []) (h : Q .normal a w) (fuel : Nat) : wpTill P md ops Q S z fuel listed a w := by
  cases fuel with
  | zero => exact ⟨hr, h⟩
  | succ _ => exact ⟨fun _ => h, by rw [hr]; simp⟩
theorem wp_region_till (S : World → Prop) (z : Nat) {id : Nat} {a : Act} {w : World} (hm : P.follows .mixedOrders = true)
    (h : wpTill P .any ops Q S z ops.size (Array.replicate ops.size false) a w.drew) : (Code.region id ops true).wp P Q a w := wp_region_any hm (wpAny_of_till _ _ _ _ h)
end
end Go.Proofs.Ytmemkoiooanhkaa
