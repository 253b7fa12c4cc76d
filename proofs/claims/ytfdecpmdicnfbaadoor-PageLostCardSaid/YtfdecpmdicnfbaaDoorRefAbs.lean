/-
  The world under a name of its own, with what is known of it.
-/
import Derived.Test.YtfdecpmdicnfbaaDoorMem
namespace Go.Proofs.YtfdecpmdicnfbaaDoor
open Go.RowKit
theorem wpList_abs {P : Program} {ops : Array Oper} {Q : Exit → Act → World → Prop} {l : List Oper} {a : Act} {w : World} (S : World → Prop) (hS : S w) (h : ∀ w', S w' → wpList P ops Q l a w') : wpList P ops Q l a w := h w hS
end Go.Proofs.YtfdecpmdicnfbaaDoor
