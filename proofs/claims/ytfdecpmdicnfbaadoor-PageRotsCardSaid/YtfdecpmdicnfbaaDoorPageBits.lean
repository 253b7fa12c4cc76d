/-
  How an argument that is a slice of uint16 is opened.
-/
import Derived.Test.YtfdecpmdicnfbaaDoorPageRow
import Derived.Test.YtfdecpmdicnfbaaDoorPageLawH
namespace Go.Proofs.YtfdecpmdicnfbaaDoor
open Go.ChangeShapes Go.WideShapes Go.ChangeAt Go.RowKit

theorem u16s_of {H : Type} {enc : TypeId × Value → H} {W : World} {sp : Nat → Bool} {v : Value} {x : DataW H × List MemPlace} {fuel : Nat} (h : DataW.trod enc Tryd.prog W 0 sp true fuel 51 [v] = some x) :
    ∃ (l : List Nat) (A : Option Addr) (cap : Nat), v = .slice A l.length cap ∧ l.length ≤ cap ∧ cap ≤ maxLen ∧ RV W A (l.map u16V) ∧ ∀ n ∈ l, n < 65536 := by
  obtain ⟨vs, A, cap, rfl, h1, h2, h3, h4⟩ := cells_of Tryd.underlying51 (by kernel_rfl) h
  obtain ⟨l, rfl, hl⟩ := map_of' (p := fun n => n < 65536) u16V (vs := vs) (fun u hu => by
    obtain ⟨n, d, hd⟩ := h4 u hu
    obtain ⟨z, hz, _, hw⟩ := DataW.trod_int Tryd.underlying52 hd
    obtain ⟨c, rfl, hc⟩ := u16_of hw
    exact ⟨c, hc, by unfold u16V; simpa using hz⟩)
  exact ⟨l, A, cap, by simp, by simpa using h1, h2, h3, hl⟩
end Go.Proofs.YtfdecpmdicnfbaaDoor
