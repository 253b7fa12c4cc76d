/-
  The walk of PurgeForgets.
-/
import Derived.Test.YtdcjljlppeighaaDoorPurgeLawL
import Derived.Test.YtdcjljlppeighaaDoorPurgeLawM
namespace Go.Proofs.YtdcjljlppeighaaDoor
open Go.RowKit PurgeP

theorem purgeForgets_walk (l : List ActR) (A : Option Addr) (cap : Nat) (ks : List Txt) (B : Option Addr) (cb : Nat) (a b c : Int) (w : World) (hS : Std w) (hl : l.length ≤ 9223372036854775807) (hR : RV w A (l.flatMap ActR.cells)) (hx : ∀ o ∈ l, ActOK w o) (hk : KeysOK w B ks cb) (_ : -9223372036854775808 ≤ a) (_ : a ≤ 9223372036854775807) (_ : -9223372036854775808 ≤ b) (_ : b ≤ 9223372036854775807) (_ : -9223372036854775808 ≤ c) (_ : c ≤ 9223372036854775807) :
    Calls Tryd.prog 6 #[.slice A l.length cap, .slice B ks.length cb, .agg #[.int .i64 a, .int .i64 b, .int .i64 c]] w fun e w' => e = .returned (.bool true) ∧ Below w.heap.size w w' := by
  cases hg : greatA l with
  | true => exact purgeForgets_off1 l A cap ks B cb a b c w hS hl hR hx hk hg
  | false =>
    cases hgk : greatB ks with
    | true => exact purgeForgets_off2 l A cap ks B cb a b c w hS hl hR hx hk hg hgk
    | false => exact if h1 : a < 0 then purgeForgets_off3 l A cap ks B cb a b c w hS hl hR hx hk hg hgk h1 else if h2 : (runP l).now < a then purgeForgets_off4 l A cap ks B cb a b c w hS hl hR hx hk hg hgk h1 h2 else if h3 : max (runP l).floor a ≤ b then purgeForgets_far l A cap ks B cb a b c w hS hl hR hx hk hg hgk h1 h2 h3 else purgeForgets_near l A cap ks B cb a b c w hS hl hR hx hk hg hgk h1 h2 h3
end Go.Proofs.YtdcjljlppeighaaDoor
