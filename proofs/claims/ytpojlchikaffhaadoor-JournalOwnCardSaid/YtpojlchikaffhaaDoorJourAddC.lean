/-
  A log's Add as one call.
-/
import Derived.Test.YtpojlchikaffhaaDoorJourAddB
namespace Go.Proofs.YtpojlchikaffhaaDoor
open Go.RowKit DiskP SumP PageP JourP

theorem jadd_calls (j : JL) (p : PJ) (x : RecR) (w : World) (base : Nat) (h : JLog w base j p) (hT : Tab w) (hbase : base ≤ w.heap.size) (hg : 0 < base) (hx : RecOK w j.foot x) :
    Calls Tryd.prog 13 #[.pointer (some ⟨j.G, 0, none⟩), .agg #[.int .u8 (x.kind.toNat : Int), .slice x.A x.body.length x.cap]] w (RetJ w base j (addE j.y.size p x.abs) (p.addS j.y.size x.abs)) := by
  unfold PJ.addS addE
  have hl : x.abs.body.length = x.body.length := rfl
  rw [hl]
  by_cases h1 : 4000 < x.body.length
  · rw [if_pos h1, if_neg (by decide)]
    exact jadd_long j p x w base h h1
  · rw [if_neg h1]
    by_cases h2 : p.half < 1 + sumNd j.y.size p.rs + x.abs.nd j.y.size
    · rw [if_pos h2, if_neg (by decide)]
      exact jadd_room j p x w base h (by omega) h2
    · rw [if_neg h2, if_pos rfl]
      exact jadd_ok j p x w base h hT hbase hg hx (by omega) (by omega)
end Go.Proofs.YtpojlchikaffhaaDoor
