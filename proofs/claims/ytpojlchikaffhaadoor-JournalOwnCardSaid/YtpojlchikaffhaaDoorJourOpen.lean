/-
  The walk of a log's Open.
-/
import Derived.Test.YtpojlchikaffhaaDoorJourFind
import Derived.Test.YtpojlchikaffhaaDoorJourTurnC
import Derived.Test.YtpojlchikaffhaaDoorJRef
namespace Go.Proofs.YtpojlchikaffhaaDoor
open Go.RowKit DiskP SumP PageP JourP

/-- What a disk says of a log that is to be opened on it. -/
structure OpenP (d : Dsk) (f h U E : Nat) (fd : Bool) (rs : List Rec) (lasts : Nat) : Prop where
  dam : fd = true → Dam d (f + U * h) (f + (1 - U) * h) h E rs lasts
  base : ∀ k, Base d (f + (1 - U) * h) (f + U * h) h (E + 1) (rs.take k)
  old : Older d (f + U * h) (E + 1)
  wait : d.wait.length ≤ 200000
def RetOpen (w : World) (base : Nat) (y : Lay) (f h U E : Nat) (fd : Bool) (rs : List Rec) (lasts : Nat) (e : Ending) (w' : World) : Prop :=
  ∃ (j : JL) (k : Nat), e = .returned (.tuple #[.pointer (some ⟨j.G, 0, none⟩), .int .i64 0]) ∧ JLog w' base j ⟨f, h, 1 - U, E + 1, rs.take k, (rs.take k).length⟩ ∧ (fd = true → lasts ≤ k) ∧ k ≤ rs.length ∧ (fd = false → k = 0) ∧ j.y.D = y.D ∧ (j.y.size = y.size ∧ j.y.lp.length = y.lp.length) ∧ j.y.abs.wait = [] ∧ Kept y.foot w w' ∧ ∀ i, j.foot i → y.foot i ∨ w.heap.size ≤ i
/-- The end of Open. -/
theorem open_end {w w1 w2 w3 : World} {base : Nat} {y : Lay} {f h U E : Nat} {fd : Bool} {rs : List Rec} {lasts k : Nat} {j0 j2 : JL} {v : Value} {xs : List RecR} (hO : OpenP y.abs f h U E fd rs lasts) (hU : U ≤ 1) (hk : k ≤ rs.length) (hk1 : fd = true → lasts ≤ k) (hk2 : fd = false → k = 0)
    (b1 : Below w.heap.size w w1) (hy : j0.y = y) (hG : j0.G = w.heap.size) (hv0 : j0.v = .slice none 0 0) (fn : FootN w1 j0 j2 w2) (hj2 : j2.y = y ∧ j2.G = j0.G ∧ j2.from_ = (f : Int) ∧ j2.half = (h : Int) ∧ j2.size = (y.size : Int)) {w2' : World} (b2 : Below w2.heap.size w2 w2') (hxa : xs.map RecR.abs = rs.take k)
    {e : Ending} (R : RetTurn w2' base j2 (1 - U) (E + 1) (f + (1 - U) * h + pos j2.y.size (xs.map RecR.abs) xs.length) v xs (turnD j2.y.abs (f + (1 - U) * h) h (E + 1) (xs.map RecR.abs)) e w3) (hv : ∀ i, v.ownBlock = some i → w2.heap.size ≤ i) :
    RetOpen w base y f h U E fd rs lasts (.returned (.tuple #[.pointer (some ⟨w.heap.size, 0, none⟩), .int .i64 0])) w3 := by
  obtain ⟨rfl, y', r1, r2, r3, r4, r5⟩ := R
  obtain ⟨hy2, hG2, hf2, hh2, hs2⟩ := hj2
  rw [hxa] at r1 r3
  have hl : xs.length = (rs.take k).length := by rw [← hxa, List.length_map]
  rw [hl] at r3
  rw [hy2] at r1 r2 r3
  obtain ⟨i1, i2⟩ := turn_inv (hO.base k) hO.old
  have hz : y'.size = y.size := by
    have e : y'.abs.size = y'.size := rfl
    rw [← e, r1]
    exact turnD_size _ _ _ _ _
  have hs1 := b1.size
  have hsw := fn.1.size
  have hsb := b2.size
  have hj0f : ∀ i, j0.foot i → y.foot i ∨ w.heap.size ≤ i := fun i hi => by
    rcases hi with hi | hi | hi
    · exact .inr (by omega)
    · rw [hv0] at hi; cases hi
    · rw [hy] at hi; exact .inl hi
  have K3 : Kept y.foot w w3 := by
    refine ⟨(r4.os.trans b2.os).trans (fn.1.os.trans b1.os), (r4.tape.trans b2.tape).trans (fn.1.tape.trans b1.tape), (r4.output.trans b2.output).trans (fn.1.output.trans b1.output), by have := r4.size; omega, fun i hi hf => ?_⟩
    have g1 := b1.block i hi
    have g2 := fn.1.block i (by omega) (fun hj => by
      rcases hj0f i hj with hj | hj
      · exact hf hj
      · omega)
    have g3 := b2.block i (by omega)
    have g4 := r4.block i (by omega) (fun hd => by
      rcases hd with hd | hd
      · omega
      · rw [hy2] at hd; exact hf hd)
    exact ((g4.trans g3).trans g2).trans g1
  refine ⟨_, k, ?_, ⟨r3, ?_, by show 1 - U ≤ 1; omega, hf2, hh2, by rw [hs2]; exact congrArg (fun n : Nat => (n : Int)) hz.symm, rfl, rfl, ?_, hxa⟩, hk1, hk, hk2, r2, ⟨hz, Lay.last_len r1 (turnD_last _ _ _ _ _)⟩, ?_, K3, fun i hi => ?_⟩
  · show _ = Ending.returned (.tuple #[.pointer (some ⟨j2.G, 0, none⟩), .int .i64 0])
    rw [hG2, hG]
  · show Inv y'.abs (f + (1 - U) * h) (f + (1 - (1 - U)) * h) h (E + 1) (rs.take k) (rs.take k).length
    rw [r1, show 1 - (1 - U) = U by omega]
    exact i1
  · show ((f + (1 - U) * h + pos y.size (rs.take k) (rs.take k).length : Nat) : Int) = ((f + (1 - U) * h + pos y'.size (rs.take k) (rs.take k).length : Nat) : Int)
    rw [hz]
  · show y'.abs.wait = []
    rw [r1]
    exact i2
  · rcases hi with hi | hi | hi
    · right
      have : i = j2.G := hi
      rw [hG2, hG] at this
      omega
    · exact .inr (by have := hv i hi; omega)
    · rcases r5 i hi with hi | hi
      · rw [hy2] at hi; exact .inl hi
      · exact .inr (by omega)
theorem jopen_nil (from_ sectors : Int) (w : World) :
    Calls Tryd.prog 17 #[.pointer none, .int .i64 from_, .int .i64 sectors] w fun e w' => e = .returned (.tuple #[.pointer none, .int .i64 1]) ∧ w = w' := by
  go_enter Tryd.func17, Tryd.ntmps17
  go_wp2_with fail
  refine (psize_nil w).mono ?_
  rintro _ w1 ⟨rfl, rfl⟩
  go_wp2
  go_ret2
  exact ⟨rfl, rfl⟩
theorem jopen_bad (y : Lay) (from_ sectors : Int) (w : World) (base : Nat) (hd : DiskOK w base y) (h : ¬ goodP (y.lp.length : Int) (y.size : Int) from_ sectors) :
    Calls Tryd.prog 17 #[.pointer (some ⟨y.D, 0, none⟩), .int .i64 from_, .int .i64 sectors] w fun e w' => e = .returned (.tuple #[.pointer none, .int .i64 1]) ∧ ∃ q, w' = w.drewN q := by
  have hl1 := hd.l1
  have hl2 := hd.l2
  have SC := size_calls y w base hd
  clear hd
  by_cases q1 : y.size < 19
  · have d1 : decide ((y.size : Int) < 19) = true := decide_eq_true (by omega)
    clear h
    go_enter Tryd.func17, Tryd.ntmps17
    go_wp2_with fail
    refine SC.mono ?_
    rintro _ w1 ⟨rfl, q, rfl⟩
    clear SC
    go_wp2
    go_ret2
    exact ⟨rfl, _, rfl⟩
  have d1 : decide ((y.size : Int) < 19) = false := decide_eq_false (by omega)
  by_cases q2 : from_ < 0
  · have d2 : decide (from_ < 0) = true := decide_eq_true q2
    clear h
    go_enter Tryd.func17, Tryd.ntmps17
    go_wp2_with fail
    refine SC.mono ?_
    rintro _ w1 ⟨rfl, q, rfl⟩
    clear SC
    go_wp2
    go_ret2
    exact ⟨rfl, _, rfl⟩
  have d2 : decide (from_ < 0) = false := decide_eq_false q2
  by_cases q3 : sectors < 4
  · have d3 : decide (sectors < 4) = true := decide_eq_true q3
    clear h
    go_enter Tryd.func17, Tryd.ntmps17
    go_wp2_with fail
    refine SC.mono ?_
    rintro _ w1 ⟨rfl, q, rfl⟩
    clear SC
    go_wp2
    go_ret2
    exact ⟨rfl, _, rfl⟩
  have d3 : decide (sectors < 4) = false := decide_eq_false q3
  by_cases q4 : (y.lp.length : Int) < sectors
  · have d4 : decide ((y.lp.length : Int) < sectors) = true := decide_eq_true q4
    clear h
    go_enter Tryd.func17, Tryd.ntmps17
    go_wp2_with fail
    refine SC.mono ?_
    rintro _ w1 ⟨rfl, q, rfl⟩
    clear SC
    go_wp2
    go_ret2
    exact ⟨rfl, _, rfl⟩
  have d4 : decide ((y.lp.length : Int) < sectors) = false := decide_eq_false q4
  have q5 : (y.lp.length : Int) - sectors < from_ := by unfold goodP at h; omega
  have d5 : decide ((y.lp.length : Int) - sectors < from_) = true := decide_eq_true q5
  have q4' : sectors ≤ (y.lp.length : Int) := by omega
  clear h q5 q4
  go_enter Tryd.func17, Tryd.ntmps17
  go_wp2_with fail
  refine SC.mono ?_
  rintro _ w1 ⟨rfl, q, rfl⟩
  clear SC
  go_wp2
  go_ret2
  exact ⟨rfl, _, rfl⟩
end Go.Proofs.YtpojlchikaffhaaDoor
