/-
  append of what can be read onto a row of the call's own, as one step of a region that draws its order.
-/
import Derived.Test.YtendnkklbeiegaaGreatDoorMAI
import Derived.Deep.RegionLaw
namespace Go.Proofs.YtendnkklbeiegaaGreatDoor
open Go.RowKit

/-- append of what can be read onto a row of the call's own, as one step of a region that draws. -/
theorem step_append_rv {P : Program} {w : World} {base : Nat} {t e : TypeId} {z : Value} {size bytes n m c : Nat} {v : Value} {xs news : List Value} {A : Option Addr} {ops : Array Oper} {o : Oper} {a : Act} {K : Act → World → Prop} {Q : Exit → Act → World → Prop} {E : Prop}
    (El0 : El P t e z size bytes) (hg : o.guard = none) (s x : Operand)
    (ho : o.op = .call { callee := .builtin .append, args := #[s, x], argTypes := #[t, t] })
    (hs : a.eval s = v) (hown : w.ownsRow base e size v n xs)
    (hx : a.eval x = .slice A m c) (hl : news.length = m * size) (hr : RV w A news) (h1 : ∀ u ∈ news, u.oneCell' = true)
    (h63 : n + m ≤ maxLen) (hbytes : (n + m) * bytes ≤ 140737488355328) (hbase : base ≤ w.heap.size)
    (hK : ∀ v' w', w'.ownsRow base e size v' (n + m) (xs ++ news) → w.grownBy w' v.ownBlock → (v'.ownBlock = v.ownBlock ∨ v'.ownBlock = some w.heap.size) → K (a.put o.dst v') w') :
    if Region.wanted o (yielded ops a.tmps) = true then Oper.wp P o a w K Q else E := by
  have hw : Region.wanted o (yielded ops a.tmps) = true := by simp [Region.wanted, hg]
  rw [if_pos hw]
  obtain ⟨v', w', hrun, h2, h3, h4⟩ := run_append_rv (P := P) (w := w) (ty := o.type) (c := c) El0 hown hl hr h1 h63 hbytes hbase
  unfold Oper.wp execOp
  simp only [ho, resolve, invoke, builtin, Sem.run_bind, Sem.run_pure, Result.andThen_ok, List.map_toArray, List.map_cons, List.map_nil, hs, hx, hrun]
  exact hK _ _ h2 h3 h4
end Go.Proofs.YtendnkklbeiegaaGreatDoor
