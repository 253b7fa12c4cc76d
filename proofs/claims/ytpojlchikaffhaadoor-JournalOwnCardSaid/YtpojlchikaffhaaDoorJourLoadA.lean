/-
  What stands while a log is loaded.
-/
import Derived.Test.YtpojlchikaffhaaDoorJourAdd
namespace Go.Proofs.YtpojlchikaffhaaDoor
open Go.RowKit DiskP SumP PageP JourP

/-- What a log that is to be loaded says of itself, and its disk. -/
structure LoadP (j : JL) (f h u e : Nat) (rs : List Rec) (lasts : Nat) : Prop where
  ffrom : j.from_ = (f : Int)
  fhalf : j.half = (h : Int)
  fsize : j.size = (j.y.size : Int)
  fuse : j.use = (u : Int)
  fe : j.epoch = (e : Int)
  hu : u ≤ 1
  hD : Dam j.y.abs (f + u * h) (f + (1 - u) * h) h e rs lasts
/-- The first k records are loaded. -/
def JL.got (j : JL) (a : Int) (v : Value) (xs : List RecR) : JL := { j with at_ := a, v := v, rs := xs }
structure LoadR (w : World) (base : Nat) (j : JL) (b : Nat) (rs : List Rec) (k : Nat) (v : Value) (xs : List RecR) (wr : World) : Prop where
  hk : k ≤ rs.length
  xa : xs.map RecR.abs = rs.take k
  ok : JOK wr base (j.got ((b + pos j.y.size rs k : Nat) : Int) v xs)
  fn : FootN w j (j.got ((b + pos j.y.size rs k : Nat) : Int) v xs) wr
def LoadX (w : World) (base : Nat) (j : JL) (b : Nat) (rs : List Rec) (k : Nat) (wr : World) : Prop := ∃ v xs, LoadR w base j b rs k v xs wr
theorem LoadR.len {w wr : World} {base : Nat} {j : JL} {b k : Nat} {rs : List Rec} {v : Value} {xs : List RecR} (h : LoadR w base j b rs k v xs wr) : xs.length = k := by
  have := congrArg List.length h.xa
  rw [List.length_map, List.length_take] at this
  have := h.hk
  omega
theorem LoadR.below {w wr w4 : World} {base : Nat} {j : JL} {b k : Nat} {rs : List Rec} {v : Value} {xs : List RecR} (h : LoadR w base j b rs k v xs wr) (bl : Below wr.heap.size wr w4) : LoadR w base j b rs k v xs w4 := ⟨h.hk, h.xa, h.ok.below bl, h.fn.trans (FootN.below bl)⟩
/-- Where all sectors are done all records are loaded. -/
theorem pos_full {size h : Nat} {rs : List Rec} (h1 : 19 ≤ size) (h2 : size ≤ 4096) (hs : ∀ r ∈ rs, r.body.length ≤ 4000) (hr : 1 + sumNd size rs ≤ h) {k : Nat} (hk : k ≤ rs.length) (hf : h ≤ pos size rs k) : k = rs.length := by
  rcases Nat.lt_or_ge k rs.length with hlt | hge
  · exfalso
    have hr' : rs[k]? = some rs[k] := List.getElem?_eq_getElem hlt
    have hp := pos_succ (size := size) hr'
    have hle := pos_le (size := size) (rs := rs) (k := k + 1) (by omega)
    have hn := nd_pos h1 h2 (r := rs[k]) (by have := hs rs[k] (List.getElem_mem hlt); omega)
    omega
  · omega
/-- One record more. -/
theorem LoadR.push {w w0 wr w3 w4 : World} {base : Nat} {j : JL} {b k : Nat} {rs : List Rec} {v v4 : Value} {xs : List RecR} {x : RecR} {r : Rec} {a : Nat} (h : LoadR w base j b rs k v xs wr) (hr : rs[k]? = some r) (hx : x.abs = r)
    (b3 : Below wr.heap.size wr w3) (o3 : RecOK w3 (fun k => k < wr.heap.size) x) (b4 : Below w3.heap.size w3 w0)
    (own4 : w4.ownsRow base 40 2 v4 (xs.length + 1) (rC xs ++ x.cells)) (gr : w0.grownBy w4 v.ownBlock) (hv : v4.ownBlock = v.ownBlock ∨ v4.ownBlock = some w0.heap.size) (ha : a = b + pos j.y.size rs (k + 1)) :
    LoadX w base j b rs (k + 1) ((w4.setCell ⟨j.G, 7, none⟩ v4).setCell ⟨j.G, 6, none⟩ (.int .i64 (a : Int))) := by
  subst ha
  have hlt := (List.getElem?_eq_some_iff.1 hr).1
  have b0 := b3.trans (b4.mono b3.size)
  obtain ⟨t1, t2⟩ := h.ok.append (w3 := w0) (w4 := w4) (xs := [x]) (v4 := v4) b0 (fun z hz => by
    simp at hz
    subst hz
    exact ((o3.below b4).mono fun k _ hk => (h.ok.foot_lt hk).2)) (by rw [show rC [x] = x.cells by simp [rC]]; exact own4) gr hv
  obtain ⟨s1, _⟩ := t1.setAt ((b + pos j.y.size rs (k + 1) : Nat) : Int)
  have s2 := FootN.setAt t1 ((b + pos j.y.size rs (k + 1) : Nat) : Int)
  refine ⟨v4, xs ++ [x], by omega, ?_, s1, (h.fn.trans t2).trans s2⟩
  rw [List.map_append, h.xa, List.map_singleton, hx]
  obtain ⟨_, rfl⟩ := List.getElem?_eq_some_iff.1 hr
  rw [List.take_succ_eq_append_getElem hlt]
theorem rec_one (k : Int) (A : Option Addr) (n c : Nat) : ∀ u ∈ [Value.int .u8 k, Value.slice A n c], u.oneCell' = true := by
  intro u hu
  simp only [List.mem_cons, List.not_mem_nil, or_false] at hu
  rcases hu with rfl | rfl <;> rfl
/-- What load gives back. -/
def RetLoad (w : World) (base : Nat) (j : JL) (rs : List Rec) (lasts : Nat) (e : Ending) (w' : World) : Prop :=
  e = .returned (.int .i64 0) ∧ ∃ k a v xs, lasts ≤ k ∧ k ≤ rs.length ∧ xs.map RecR.abs = rs.take k ∧ JOK w' base (j.got a v xs) ∧ FootN w j (j.got a v xs) w'
end Go.Proofs.YtpojlchikaffhaaDoor
