/-
  A log on a disk that was just made; the walk of the statements' open.
-/
import Derived.Test.YtpojlchikaffhaaDoorJourDoE
namespace Go.Proofs.YtpojlchikaffhaaDoor
open Go.RowKit DiskP SumP PageP JourP

theorem fresh_told {n size a : Nat} (ha : a < n) : (newD n size).told[a]? = some (zeroS size) := by
  show (List.replicate n (zeroS size))[a]? = _
  rw [List.getElem?_replicate, if_pos ha]
theorem fresh_open {n size f s : Nat} (h1 : size ≤ 4096) (hq : goodP (n : Int) (size : Int) (f : Int) (s : Int)) (hn : n ≤ 65536) : OpenP (newD n size) f (s / 2) 1 0 false [] 0 ∧ ∀ i, i < 2 → getR (newD n size) ((f + i * (s / 2) : Nat) : Int) = headR none := by
  obtain ⟨q1, q2, q3, q4, q5⟩ := hq
  obtain ⟨h, hh⟩ : ∃ h, s / 2 = h := ⟨_, rfl⟩
  have hh2 : 2 ≤ h := by omega
  have hfl : f + 2 * h ≤ n := by omega
  rw [hh]
  have hl : (newD n size).last.length = n := by simp [newD]
  refine ⟨⟨fun h => (by cases h), fun k => ⟨rfl, by show 19 ≤ size; omega, h1, hh2, by rw [hl]; omega, by rw [hl]; omega, by omega, by omega, by omega, by simp, fun r hr => by simp at hr, by show 1 + sumNd size _ ≤ h; simp [sumNd]; omega⟩, .inl (fresh_told (by omega)), Nat.zero_le _⟩, fun i hi => ?_⟩
  exact getR_zero (newD n size) (f + i * h) rfl (fresh_told (by rcases (show i = 0 ∨ i = 1 by omega) with rfl | rfl <;> omega))
theorem jopen_fresh (y : Lay) (f s n size : Nat) (w : World) (base : Nat) (hd : DiskOK w base y) (ha : y.abs = newD n size) (hln : y.lp.length = n) (hs : y.size = size) (hq : goodP (n : Int) (size : Int) (f : Int) (s : Int)) (hT : Tab w) (hbase : base ≤ w.heap.size) (hg : 0 < base) :
    Calls Tryd.prog 17 #[.pointer (some ⟨y.D, 0, none⟩), .int .i64 (f : Int), .int .i64 (s : Int)] w (RetOpen w base y f (s / 2) 1 0 false [] 0) := by
  have h2 := hd.s2
  have hl2 := hd.l2
  obtain ⟨o1, o2⟩ := fresh_open (n := n) (size := size) (f := f) (s := s) (by omega) hq (by omega)
  exact jopen_good y f s (fun _ => none) [] 0 w base hd (by rw [hln, hs]; exact hq) (by rw [ha]; exact o1) (by rw [ha]; exact o2) (fun i m h => by cases h) hT hbase hg
/-- Both logs, fresh. -/
theorem fresh_both {w1 : World} {base : Nat} {X : Nat → Prop} {y : Lay} {f s size : Nat} {j : JL} {k : Nat} (hs : y.size = size) (hL : JLog w1 base j ⟨f, s / 2, 1 - 1, 0 + 1, ([] : List Rec).take k, (([] : List Rec).take k).length⟩) (hz : j.y.size = y.size) (hX1 : ∀ k, X k → k < w1.heap.size) (hX2 : ∀ k, X k → ¬ j.foot k) : BothJ w1 base X j (XL.fresh ((s : Int) / 2) (size : Int)) ⟨f, s / 2, 0, 1, [], 0⟩ 0 := by
  have e : ([] : List Rec).take k = [] := by simp
  rw [e] at hL
  have hr : j.rs = [] := by have := hL.frs; simpa using this
  exact ⟨hL, ⟨RVF.nil, Nat.le_refl _, (by show 0 ≤ _; omega), fun r hr => by cases hr⟩, ⟨rfl, rfl, by show (s : Int) / 2 = ((s / 2 : Nat) : Int); omega, by show (size : Int) = (j.y.size : Int); omega, rfl⟩, fun z hz => (by rw [hr] at hz; cases hz), hX1, hX2⟩
def zeroX : Value := .agg #[.slice none 0 0, .int .i64 0, .int .i64 0, .int .i64 0, .int .i64 0]
/-- What the statements' open gives back. -/
def RetO (w : World) (P : PlaceR) (e : Ending) (w' : World) : Prop :=
  (∃ v0, e = .returned (.tuple #[v0, .pointer none, .agg #[.slice none 0 0, .int .i64 0, .int .i64 0, .int .i64 0, .int .i64 0], .bool false]) ∧ Below w.heap.size w w') ∨
  ∃ (base : Nat) (j : JL) (x : XL) (f s : Nat), e = .returned (.tuple #[.pointer (some ⟨j.y.D, 0, none⟩), .pointer (some ⟨j.G, 0, none⟩), x.val, .bool true]) ∧ Below w.heap.size w w' ∧ w.heap.size ≤ base ∧ base ≤ w'.heap.size ∧ BothJ w' base (fun _ => False) j x ⟨f, s / 2, 0, 1, [], 0⟩ 0 ∧ P.from_ = (f : Int) ∧ P.sectors = (s : Int) ∧ goodP P.all P.size (f : Int) (s : Int) ∧ P.all = (j.y.lp.length : Int) ∧ P.size = (j.y.size : Int)
end Go.Proofs.YtpojlchikaffhaaDoor
