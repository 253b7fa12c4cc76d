/-
  Spans in plain Lean: what the program's and the document's functions compute.
-/
import Derived.Lib.Hide
import Derived.Below
namespace Go.Proofs.YtpcedmiehoimbaaDoor.SpanP
/-- May a span be? -/
def rightB (a b : Int) : Bool := decide (0 ≤ a ∧ a ≤ b ∧ b ≤ 4611686018427387904)
def openB (a b : Int) : Bool := decide (b = 4611686018427387904 ∧ a ≠ 4611686018427387904)
/-- How many bytes. -/
def lenI (a b : Int) : Int := if 0 ≤ a ∧ a ≤ b ∧ b ≤ 4611686018427387904 then (if b = 4611686018427387904 ∧ a ≠ 4611686018427387904 then 4611686018427387904 else b - a) else 0
def hasB (a b x : Int) : Bool := decide (0 ≤ a ∧ a ≤ b ∧ b ≤ 4611686018427387904 ∧ a ≤ x ∧ x < b)
/-- What both have. -/
def meetB (a b c d : Int) : Bool := decide (0 ≤ a ∧ a ≤ b ∧ b ≤ 4611686018427387904 ∧ 0 ≤ c ∧ c ≤ d ∧ d ≤ 4611686018427387904 ∧ max a c < min b d)
def meetF (a b c d : Int) : Int := if 0 ≤ a ∧ a ≤ b ∧ b ≤ 4611686018427387904 ∧ 0 ≤ c ∧ c ≤ d ∧ d ≤ 4611686018427387904 ∧ max a c < min b d then max a c else 0
def meetT (a b c d : Int) : Int := if 0 ≤ a ∧ a ≤ b ∧ b ≤ 4611686018427387904 ∧ 0 ≤ c ∧ c ≤ d ∧ d ≤ 4611686018427387904 ∧ max a c < min b d then min b d else 0
/-- Both as one. -/
def touchB (a b c d : Int) : Bool := decide (0 ≤ a ∧ a ≤ b ∧ b ≤ 4611686018427387904 ∧ 0 ≤ c ∧ c ≤ d ∧ d ≤ 4611686018427387904 ∧ max a c ≤ min b d)
def joinF (a b c d : Int) : Int := if 0 ≤ a ∧ a ≤ b ∧ b ≤ 4611686018427387904 ∧ 0 ≤ c ∧ c ≤ d ∧ d ≤ 4611686018427387904 ∧ max a c ≤ min b d then min a c else 0
def joinT (a b c d : Int) : Int := if 0 ≤ a ∧ a ≤ b ∧ b ≤ 4611686018427387904 ∧ 0 ≤ c ∧ c ≤ d ∧ d ≤ 4611686018427387904 ∧ max a c ≤ min b d then max b d else 0
def withinB (a b c d : Int) : Bool := decide (0 ≤ a ∧ a ≤ b ∧ b ≤ 4611686018427387904 ∧ 0 ≤ c ∧ c ≤ d ∧ d ≤ 4611686018427387904 ∧ (a = b ∨ c ≤ a ∧ b ≤ d))
/-- What is ahead of x, and the rest. -/
def cutA (a b _x : Int) : Int := if 0 ≤ a ∧ a ≤ b ∧ b ≤ 4611686018427387904 then a else 0
def cutM (a b x : Int) : Int := if 0 ≤ a ∧ a ≤ b ∧ b ≤ 4611686018427387904 then min (max x a) b else 0
def cutB (a b _x : Int) : Int := if 0 ≤ a ∧ a ≤ b ∧ b ≤ 4611686018427387904 then b else 0
/-- Whole units. -/
def aliB (a b u : Int) : Prop := 0 ≤ a ∧ a ≤ b ∧ b ≤ 4611686018427387904 ∧ 1 ≤ u ∧ u ≤ 1099511627776
instance (a b u : Int) : Decidable (aliB a b u) := by unfold aliB; infer_instance
def aliF (a b u : Int) : Int := if aliB a b u then a - a % u else 0
def aliT (a b u : Int) : Int := if aliB a b u then (if b % u = 0 then b else min (b - b % u + u) 4611686018427387904) else 0
def aliE (a b u : Int) : Int := if aliB a b u then 0 else 1
end Go.Proofs.YtpcedmiehoimbaaDoor.SpanP
