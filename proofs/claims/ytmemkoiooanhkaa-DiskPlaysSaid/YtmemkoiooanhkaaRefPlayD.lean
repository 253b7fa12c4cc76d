/-
  The walk of play, whatever the act.
-/
import Derived.Test.YtmemkoiooanhkaaRefPlayB
import Derived.Test.YtmemkoiooanhkaaRefPlayC
import Derived.Deep.RegionHeld
namespace Go.Proofs.Ytmemkoiooanhkaa
open Go.RowKit DiskP

theorem play_calls (a : ActR) (y : Lay) (m : Ref) (w : World) (base : Nat) (h : DiskOK w base y) (X : Nat → Prop) (hX : ∀ k, X k → k < w.heap.size) (hr : RefOK w (fun k => y.foot k ∨ X k) m y.abs) (hw : y.wp.length ≤ 1000) (hb : base ≤ w.heap.size) (ha : ActOK w a) (hK : RVF w y.foot a.ka (cL a.keep)) :
    Calls Try.prog 21 #[.pointer (some ⟨y.D, 0, none⟩), m.val y.abs.size y.abs.off, .agg #[.int .i64 a.kind, .int .i64 a.n, .int .i64 a.torn, .int .u8 (a.b.toNat : Int), .slice a.ka a.keep.length a.kc]] w (RetPlay X w base y) := by
  by_cases h0 : a.kind = 0
  · exact play_0 a y m w base h X hX hr hw hb ha hK h0
  by_cases h1 : a.kind = 1
  · exact play_1 a y m w base h X hX hr hw hb ha hK h1
  by_cases h2 : a.kind = 2
  · exact play_2 a y m w base h X hX hr hw hb ha hK h2
  by_cases h3 : a.kind = 3
  · exact play_3 a y m w base h X hX hr hw hb ha hK h3
  by_cases h4 : a.kind = 4
  · exact play_4 a y m w base h X hX hr hw hb ha hK h4
  by_cases t0 : a.torn < 0
  · exact play_5a a y m w base h X hX hr hw hb ha hK h0 h1 h2 h3 h4 0 (by omega) t0 rfl
  by_cases t1 : a.torn ≤ 100
  · exact play_5b a y m w base h X hX hr hw hb ha hK h0 h1 h2 h3 h4 a.torn.toNat (by omega) (by omega) t1 (by omega)
  · exact play_5c a y m w base h X hX hr hw hb ha hK h0 h1 h2 h3 h4 100 (by omega) (by omega) rfl
end Go.Proofs.Ytmemkoiooanhkaa
