/-
  A log of the program's, tied to its plain words.
-/
import Derived.Test.YtpojlchikaffhaaDoorJourMem
namespace Go.Proofs.YtpojlchikaffhaaDoor.JourP
open DiskP PageP

/-- A log in plain words: from which sector on it lies, a half's sectors, which half is in use, its epoch, its records, how many of them last. -/
structure PJ where
  from_ : Nat
  half : Nat
  use : Nat
  e : Nat
  rs : List Rec
  lasts : Nat
def PJ.b (p : PJ) : Nat := p.from_ + p.use * p.half
def PJ.o (p : PJ) : Nat := p.from_ + (1 - p.use) * p.half
def PJ.add (p : PJ) (r : Rec) : PJ := { p with rs := p.rs ++ [r] }
def PJ.sync (p : PJ) : PJ := { p with lasts := p.rs.length }
def PJ.turned (p : PJ) (ks : List Rec) : PJ := { p with use := 1 - p.use, e := p.e + 1, rs := ks, lasts := ks.length }
def longB (ks : List Rec) : Bool := ks.any fun r => decide (4000 < r.body.length)
/-- What Add tells, and Turn, and Left. -/
def addE (size : Nat) (p : PJ) (r : Rec) : Int := if 4000 < r.body.length then 1 else if p.half < 1 + sumNd size p.rs + r.nd size then 5 else 0
def turnE (size : Nat) (p : PJ) (ks : List Rec) : Int := if longB ks = true then 1 else if p.half < 1 + sumNd size ks then 5 else 0
def leftN (size : Nat) (p : PJ) : Int := (p.half : Int) - (1 + sumNd size p.rs : Nat)
def PJ.addS (p : PJ) (size : Nat) (r : Rec) : PJ := if addE size p r = 0 then p.add r else p
def PJ.turnS (p : PJ) (size : Nat) (ks : List Rec) : PJ := if turnE size p ks = 0 then p.turned ks else p
theorem PJ.swap {p : PJ} (h : p.use ≤ 1) (ks : List Rec) : (p.turned ks).b = p.o ∧ (p.turned ks).o = p.b := by
  unfold PJ.b PJ.o PJ.turned
  refine ⟨rfl, ?_⟩
  show p.from_ + (1 - (1 - p.use)) * p.half = p.from_ + p.use * p.half
  rw [show 1 - (1 - p.use) = p.use by omega]
/-- Each record needs a sector, at least. -/
theorem nd_pos {size : Nat} (h1 : 19 ≤ size) (h2 : size ≤ 4096) {r : Rec} (hr : r.body.length ≤ 1000000) : 1 ≤ r.nd size := by
  have := r.bytes_len
  exact (nd_eq h1 h2 (by omega)).2
theorem len_le_sum {size : Nat} (h1 : 19 ≤ size) (h2 : size ≤ 4096) : ∀ (rs : List Rec), (∀ r ∈ rs, r.body.length ≤ 4000) → rs.length ≤ sumNd size rs
  | [], _ => Nat.zero_le _
  | r :: rs, h => by
    have h3 := nd_pos h1 h2 (r := r) (by have := h r (by simp); omega)
    have h4 := len_le_sum h1 h2 rs fun x hx => h x (by simp [hx])
    have e : sumNd size (r :: rs) = r.nd size + sumNd size rs := by simp [sumNd]
    rw [e, List.length_cons]
    omega
end Go.Proofs.YtpojlchikaffhaaDoor.JourP
namespace Go.Proofs.YtpojlchikaffhaaDoor
open Go.RowKit DiskP PageP JourP

/-- A log that stands, and what it is in plain words. -/
structure JLog (w : World) (base : Nat) (j : JL) (p : PJ) : Prop where
  ok : JOK w base j
  inv : Inv j.y.abs p.b p.o p.half p.e p.rs p.lasts
  u : p.use ≤ 1
  ffrom : j.from_ = (p.from_ : Int)
  fhalf : j.half = (p.half : Int)
  fsize : j.size = (j.y.size : Int)
  fuse : j.use = (p.use : Int)
  fe : j.epoch = (p.e : Int)
  fat : j.at_ = ((p.b + pos j.y.size p.rs p.rs.length : Nat) : Int)
  frs : j.rs.map RecR.abs = p.rs
section
variable {w w' : World} {base : Nat} {j : JL} {p : PJ}
theorem JLog.below (h : JLog w base j p) (b : Below w.heap.size w w') : JLog w' base j p := { h with ok := h.ok.below b }
theorem JLog.len (h : JLog w base j p) : j.rs.length = p.rs.length := by have := congrArg List.length h.frs; simpa using this
theorem JLog.sizes (h : JLog w base j p) : 19 ≤ j.y.size ∧ j.y.size ≤ 4096 ∧ j.y.lp.length ≤ 65536 ∧ p.b + p.half ≤ j.y.lp.length ∧ p.o + p.half ≤ j.y.lp.length ∧ 1 + sumNd j.y.size p.rs ≤ p.half ∧ p.rs.length ≤ p.half ∧ 2 ≤ p.half := by
  have hb := h.inv.base
  have hl : j.y.abs.last.length = j.y.lp.length := by simp [Lay.abs]
  have h1 : 19 ≤ j.y.size := hb.s19
  have h2 : j.y.size ≤ 4096 := hb.s40
  have h3 := h.ok.dk.l2
  have h4 := hb.lb
  have h5 := hb.lo
  have h6 : 1 + sumNd j.y.size p.rs ≤ p.half := hb.room
  have h7 := len_le_sum h1 h2 p.rs hb.small
  have h8 := hb.h2
  rw [hl] at h4 h5
  omega
theorem JLog.waits (h : JLog w base j p) : j.y.wp.length ≤ 65536 := by
  have h1 := h.inv.dam.wl
  obtain ⟨_, _, h3, h4, _⟩ := h.sizes
  have : j.y.abs.wait.length = j.y.wp.length := by simp [Lay.abs]
  omega
end
theorem Lay.last_len {y y' : Lay} {d : Dsk} (h : y'.abs = d) (hl : d.last.length = y.abs.last.length) : y'.lp.length = y.lp.length := by
  have e1 : y'.abs.last.length = y'.lp.length := by simp [Lay.abs]
  have e2 : y.abs.last.length = y.lp.length := by simp [Lay.abs]
  rw [← e1, ← e2, h, hl]
/-- The bodies of the records j' lie apart from whatever old blocks those of j did. -/
def ApartR (w : World) (j j' : JL) (w' : World) : Prop := ∀ X : Nat → Prop, (∀ k, X k → k < w.heap.size) → (∀ z ∈ j.rs, RecOK w X z) → ∀ z ∈ j'.rs, RecOK w' X z
theorem JOK.body {w : World} {base : Nat} {j : JL} (h : JOK w base j) : ∀ z ∈ j.rs, RecOK w j.foot z := fun z hz => (h.kp.row.ks z hz).mono fun k _ hk => by
  rcases hk with hk | hk | hk
  · exact .inr (.inl hk)
  · exact .inl hk
  · exact .inr (.inr hk)
/-- Bodies that stay. -/
theorem RecOK.stay {w w' : World} {X : Nat → Prop} {base : Nat} {j : JL} {z : RecR} (h : JOK w base j) (hz : z ∈ j.rs) (hx : RecOK w X z) (hk : Kept j.foot w w') : RecOK w' X z :=
  (hx.cross (h.body z hz)).next (hk.mono fun _k _ hf => .inr hf) fun _k _ hf => .inl hf
/-- What a call makes of a log: the same struct, which stands as p' says; all else that was there stands. -/
def NextJ (w : World) (base : Nat) (j : JL) (p' : PJ) (w' : World) : Prop :=
  ∃ j', JLog w' base j' p' ∧ j'.G = j.G ∧ j'.y.D = j.y.D ∧ (j'.y.size = j.y.size ∧ j'.y.lp.length = j.y.lp.length) ∧ Kept j.foot w w' ∧ (∀ k, j'.foot k → j.foot k ∨ w.heap.size ≤ k) ∧ ApartR w j j' w'
theorem NextJ.same_below {w w' : World} {base : Nat} {j : JL} {p : PJ} (h : JLog w base j p) (b : Below w.heap.size w w') : NextJ w base j p w' := ⟨j, h.below b, rfl, rfl, ⟨rfl, rfl⟩, Kept.of_below b _, fun _ hk => .inl hk, fun _ _ h z hz => (h z hz).below b⟩
end Go.Proofs.YtpojlchikaffhaaDoor
