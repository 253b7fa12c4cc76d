/-
  The two logs side by side; the statements' great and do.
-/
import Derived.Test.YtdcjljlppeighaaDoorPurgeRefForget
import Derived.Test.YtdcjljlppeighaaDoorPurgeHelp
import Derived.Test.YtdcjljlppeighaaDoorPurgeOps
namespace Go.Proofs.YtdcjljlppeighaaDoor
open Go.RowKit PurgeP

/-- Both logs hold P, apart from each other; both lie from base on. -/
structure BothOK (w : World) (base : Nat) (y : LogR) (z : RefR) (P : PLog) : Prop where
  L : LogOK w base (fun k => k = z.M) y
  R : RefOK w y.foot z
  ya : y.abs = P
  za : z.abs = P
  bM : base ≤ z.M
  bs : base ≤ w.heap.size
theorem BothOK.below {w w' : World} {base : Nat} {y : LogR} {z : RefR} {P : PLog} (h : BothOK w base y z P) (b : Below w.heap.size w w') : BothOK w' base y z P := ⟨h.L.below b, h.R.below b, h.ya, h.za, h.bM, Nat.le_trans h.bs b.size⟩
/-- Behind a call on the program's log. -/
theorem BothOK.left {w w' : World} {base : Nat} {y : LogR} {z : RefR} {P S : PLog} (h : BothOK w base y z P) (n : NextL w base (fun k => k = z.M) y S w') :
    ∃ y', y'.D = y.D ∧ LogOK w' base (fun k => k = z.M) y' ∧ RefOK w' y'.foot z ∧ y'.abs = S ∧ Below base w w' ∧ Kept y.foot w w' := by
  obtain ⟨y', h1, h2, h3, h4, h5⟩ := n
  refine ⟨y', h3, h1, h.R.next h4 (fun k hk hf => (h5 k hf).resolve_right (by omega)), h2, h4.below (fun k _ hf => (h.L.foot_lt hf).1) h.bs, h4⟩
/-- Behind a call on the document's log. -/
theorem both_right {w w' : World} {base : Nat} {y : LogR} {z : RefR} {S : PLog} (hL : LogOK w base (fun k => k = z.M) y) (hy : y.abs = S) (hb : base ≤ z.M) (hs : base ≤ w.heap.size) (n : NextR w y.foot z S w') :
    ∃ z', z'.M = z.M ∧ BothOK w' base y z' S ∧ Below base w w' ∧ Kept (fun k => k = z.M) w w' := by
  obtain ⟨z', h1, h2, h3, h4⟩ := n
  have hb' : Below base w w' := h4.below (fun k _ hf => by rw [hf]; exact hb) hs
  refine ⟨z', h3, ⟨?_, h1, hy, h2, by rw [h3]; exact hb, Nat.le_trans hs hb'.size⟩, hb', h4⟩
  rw [h3]
  exact hL.kept h4
def stepP (p : PLog) (a : ActR) : PLog := if a.kind = 1 then p.addS a.keys a.hard else if a.kind = 2 then p.forS a.n else p
def runP (l : List ActR) : PLog := l.foldl stepP PLog.new
def greatL (l : List ActR) : Bool := l.any fun a => greatB a.keys
def greatA (l : List ActR) : Bool := decide (50 < l.length) || greatL l
theorem greatL_succ {l : List ActR} {k : Nat} {a : ActR} (ha : l[k]? = some a) : greatL (l.take (k + 1)) = (greatL (l.take k) || greatB a.keys) := by
  obtain ⟨hlt, rfl⟩ := List.getElem?_eq_some_iff.1 ha
  unfold greatL
  rw [List.take_succ_eq_append_getElem hlt, List.any_append]
  simp
theorem greatL_at {l : List ActR} {k : Nat} {a : ActR} (ha : l[k]? = some a) (h : greatB a.keys = true) : greatL l = true := List.any_eq_true.2 ⟨a, List.mem_of_getElem? ha, h⟩
theorem act_cells {W : World} {l : List ActR} {A : Option Addr} (hR : RV W A (l.flatMap ActR.cells)) {k : Nat} {a : ActR} (ha : l[k]? = some a) : ∃ b off, A = some ⟨b, off, none⟩ ∧ b < W.heap.size ∧
    W.cell? ⟨b, off + k * 4, none⟩ = some (.int .i64 a.kind) ∧ W.cell? ⟨b, off + k * 4 + 1, none⟩ = some (.slice a.A a.keys.length a.cap) ∧ W.cell? ⟨b, off + k * 4 + 2, none⟩ = some (.bool a.hard) ∧ W.cell? ⟨b, off + k * 4 + 3, none⟩ = some (.int .i64 a.n) := by
  have g : ∀ i v, i < 4 → a.cells[i]? = some v → (l.flatMap ActR.cells)[k * 4 + i]? = some v := fun i v hi hv => by rw [acts_get l k i hi, ha]; exact hv
  obtain ⟨b, off, e, h1, h2⟩ := hR (by intro e; have := g 0 _ (by omega) rfl; rw [e] at this; simp at this)
  refine ⟨b, off, e, h1, h2 _ _ (g 0 _ (by omega) rfl), ?_, ?_, ?_⟩
  · rw [Nat.add_assoc]; exact h2 _ _ (g 1 _ (by omega) rfl)
  · rw [Nat.add_assoc]; exact h2 _ _ (g 2 _ (by omega) rfl)
  · rw [Nat.add_assoc]; exact h2 _ _ (g 3 _ (by omega) rfl)
set_option maxHeartbeats 1600000 in
theorem great_calls (l : List ActR) (A : Option Addr) (cap : Nat) (W w : World) (hb : Below W.heap.size W w) (hl : l.length ≤ 9223372036854775807) (hR : RV W A (l.flatMap ActR.cells)) (hx : ∀ o ∈ l, ActOK W o) :
    Calls Tryd.prog 13 #[.slice A l.length cap] w fun e w' => e = .returned (.bool (greatA l)) ∧ Below w.heap.size w w' := by
  go_enter Tryd.func13, Tryd.ntmps13
  by_cases h50 : 50 < l.length
  · have d : decide (50 < (l.length : Int)) = true := decide_eq_true (by omega)
    have d' : decide (50 < l.length) = true := decide_eq_true h50
    have HF : Hid (greatA l = true) := by show _ = _; unfold greatA; rw [d', Bool.true_or]
    go_wp2_with fail
    go_ret
    exact ⟨by rw [HF.out]; rfl, Below.refl _ _⟩
  have d : decide (50 < (l.length : Int)) = false := decide_eq_false (by omega)
  have HG : Hid (greatA l = greatL l) := by show _ = _; unfold greatA; rw [decide_eq_false h50, Bool.false_or]
  go_wp2_with fail
  go_loopw [10] (fun i wr => ∃ k : Nat, k ≤ l.length ∧ i = .int .i64 (k : Int) ∧ greatL (l.take k) = false ∧ Below w.heap.size w wr) (fun i _ => l.length - (intOf i).toNat)
  case atStart => exact ⟨0, by omega, rfl, rfl, Below.refl _ _⟩
  case round =>
    obtain ⟨k, hk, rfl, hp, bel⟩ := hrel
    by_cases hlt : k < l.length
    · have hdec : decide ((k : Int) < (l.length : Int)) = true := decide_eq_true (by omega)
      have hdec' : decide (k < l.length) = true := decide_eq_true hlt
      have hltI : (k : Int) < (l.length : Int) := by omega
      obtain ⟨a, ha⟩ : ∃ a, l[k]? = some a := ⟨_, List.getElem?_eq_getElem hlt⟩
      have hao := hx a (List.mem_of_getElem? ha)
      have BW : Below W.heap.size W wr := hb.trans (bel.mono hb.size)
      obtain ⟨b, off, rfl, hbb, q0, q1, q2, q3⟩ := act_cells (hR.below BW) ha
      have hHS := Lib.hid (greatL_succ ha)
      have hHA := fun h => greatL_at (l := l) ha h
      have GC := fun o => rgreat_calls a.keys a.A a.cap (wr.alloc o) ((hao.ks.rs.below BW).alloc o) (by have := hao.ks.le; have := hao.ks.cap; omega) hao.ks.small
      cases hq : greatB a.keys with
      | true =>
        rw [hq] at GC
        have HF : Hid (greatA l = true) := by show _ = _; rw [HG.out, hHA hq]
        clear hHS hHA hq hao ha hp HG hR
        go_wp2_with fail
        refine (GC _).mono ?_
        rintro e w5 ⟨rfl, rfl⟩
        go_wp2_with fail
        go_ret
        exact ⟨by rw [HF.out]; rfl, bel.alloc bel.size _⟩
      | false =>
        rw [hq] at GC
        have HV : Hid (greatL (l.take (k + 1)) = false) := by show _ = _; rw [hHS.out, hp, hq]; rfl
        clear hHS hHA hq hao ha hp HG hR
        go_wp2_with fail
        refine (GC _).mono ?_
        rintro e w5 ⟨rfl, rfl⟩
        go_wp2_with fail
        go_roundw
        case rel => exact ⟨k + 1, by omega, by go_num, HV.out, bel.alloc bel.size _⟩
        case measure => simp [intOf]; omega
    · obtain rfl : k = l.length := by omega
      rw [List.take_length] at hp
      have HF : Hid (greatA l = false) := by show _ = _; rw [HG.out, hp]
      clear hp HG hR hx
      go_wp2_with fail
      go_ret
      exact ⟨by rw [HF.out]; rfl, bel⟩
theorem great_acts {l : List ActR} (h : greatA l = false) : l.length ≤ 50 ∧ ∀ a ∈ l, greatB a.keys = false := by
  unfold greatA at h
  rw [Bool.or_eq_false_iff, decide_eq_false_iff_not] at h
  refine ⟨by omega, fun a ha => ?_⟩
  have := h.2
  unfold greatL at this
  rw [List.any_eq_false] at this
  exact Bool.eq_false_iff.2 (this a ha)
end Go.Proofs.YtdcjljlppeighaaDoor
