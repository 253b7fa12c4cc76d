/-
  A log that is opened on a disk on which one lies, maybe broken.
-/
import Derived.Test.YtpojlchikaffhaaDoorJourOpenB
namespace Go.Proofs.YtpojlchikaffhaaDoor
open Go.RowKit DiskP SumP PageP JourP

theorem JourP.Dam.heads {d : Dsk} {f h u e : Nat} {rs : List Rec} {lasts : Nat} (D : Dam d (f + u * h) (f + (1 - u) * h) h e rs lasts) (hu : u ≤ 1) (he : e < 1000000) :
    ∃ g : Nat → Option Nat, findSt g 2 = (u, e, true) ∧ (∀ i, i < 2 → getR d ((f + i * h : Nat) : Int) = headR (g i)) ∧ ∀ i m, g i = some m → m ≤ 1000000 := by
  have h1 := D.head
  have hb := D.base
  have h2 := D.old.get hb.off hb.s19 hb.s40 (by omega)
  obtain ⟨o, ho, hoe⟩ : ∃ o : Option Nat, getR d ((f + (1 - u) * h : Nat) : Int) = headR o ∧ ∀ m, o = some m → m < e := by
    rcases h2 with h2 | ⟨m, _, h3, h2⟩
    · exact ⟨none, h2, fun m hm => by cases hm⟩
    · exact ⟨some m, h2, fun m' hm => by cases hm; exact h3⟩
  refine ⟨fun i => if i = u then some e else o, ?_, fun i hi => ?_, fun i m hm => ?_⟩
  · rcases (show u = 0 ∨ u = 1 by omega) with rfl | rfl
    · cases o with
      | none => rfl
      | some m =>
        have := hoe m rfl
        show (if true = false ∨ e < m then _ else _) = _
        rw [if_neg (by simp; omega)]
        rfl
    · cases o with
      | none => rfl
      | some m =>
        have := hoe m rfl
        show (if true = false ∨ m < e then _ else _) = _
        rw [if_pos (.inr this)]
  · by_cases hi' : i = u
    · subst hi'; simp only [if_true]; exact h1
    · obtain rfl : i = 1 - u := by omega
      simp only [if_neg hi']; exact ho
  · by_cases hi' : i = u
    · simp only [if_pos hi', Option.some.injEq] at hm; omega
    · simp only [if_neg hi'] at hm; have := hoe m hm; omega
theorem JourP.Dam.openP {d : Dsk} {f h u e : Nat} {rs : List Rec} {lasts : Nat} (D : Dam d (f + u * h) (f + (1 - u) * h) h e rs lasts) (he : e < 1000000) (hl : d.last.length ≤ 65536) : OpenP d f h u e true rs lasts := by
  have hb := D.base
  refine ⟨fun _ => D, fun k => ?_, D.older, ?_⟩
  · have ht := hb.take k
    exact ht.over he ht.cnt ht.small ht.room
  · have := D.wl
    have := hb.lb
    omega
theorem jopen_dam (y : Lay) (f s u e : Nat) (rs : List Rec) (lasts : Nat) (w : World) (base : Nat) (hd : DiskOK w base y) (hq : goodP (y.lp.length : Int) (y.size : Int) (f : Int) (s : Int)) (D : Dam y.abs (f + u * (s / 2)) (f + (1 - u) * (s / 2)) (s / 2) e rs lasts) (hu : u ≤ 1) (he : e < 1000000) (hT : Tab w) (hbase : base ≤ w.heap.size) (hg : 0 < base) :
    Calls Tryd.prog 17 #[.pointer (some ⟨y.D, 0, none⟩), .int .i64 (f : Int), .int .i64 (s : Int)] w (RetOpen w base y f (s / 2) u e true rs lasts) := by
  obtain ⟨g, g1, g2, g3⟩ := D.heads hu he
  have := jopen_good y f s g rs lasts w base hd hq (by
    rw [g1]
    exact D.openP he (by have e1 : y.abs.last.length = y.lp.length := by simp [Lay.abs]
                         have := hd.l2; omega)) g2 g3 hT hbase hg
  rw [g1] at this
  exact this
end Go.Proofs.YtpojlchikaffhaaDoor
