/-
  What a store holds, act by act, in plain words; what is still there of what was put; no program in sight.
-/
import Derived.Test.YtendnkklbeiegaaGreatDoorProg
import Derived.Test.YtendnkklbeiegaaGreatDoorMAF
namespace Go.Proofs.YtendnkklbeiegaaGreatDoor.StoreP

abbrev Nm := Nat × Nat
/-- Where a slice lies, how many bytes it has, its mark. -/
structure Slot where
  at_ : Nat
  len : Nat
  mark : Nat
  deriving DecidableEq
/-- What the log tells of a store, one record each. -/
inductive Act where
  | note (v : Nat) (text : List UInt8)
  | put (n : Nm) (x : Slot)
  | mark (text : List UInt8)
  | drop (n : Nm)
  deriving DecidableEq
structure St where
  notes : Nat → Option (List UInt8)
  sl : Nm → Option Slot
  marks : List (List UInt8)
def St.empty : St := ⟨fun _ => none, fun _ => none, []⟩
def upd {α β : Type} [DecidableEq α] (f : α → Option β) (k : α) (v : Option β) : α → Option β := fun x => if x = k then v else f x
theorem upd_same {α β : Type} [DecidableEq α] (f : α → Option β) (k : α) (v : Option β) : upd f k v k = v := if_pos rfl
theorem upd_other {α β : Type} [DecidableEq α] (f : α → Option β) {k x : α} (v : Option β) (h : x ≠ k) : upd f k v x = f x := if_neg h
def St.heed (s : St) : Act → St
  | .note v t => { s with notes := upd s.notes v (some t) }
  | .put n x => { s with sl := upd s.sl n (some x) }
  | .mark t => { s with marks := s.marks ++ [t] }
  | .drop n => { s with sl := upd s.sl n none }
def run (l : List Act) : St := l.foldl St.heed .empty
theorem run_snoc (l : List Act) (a : Act) : run (l ++ [a]) = (run l).heed a := by simp [run]
/-- Does an act speak of a name? -/
def Act.of (n : Nm) : Act → Prop
  | .put m _ => m = n
  | .drop m => m = n
  | _ => False
theorem heed_of {s : St} {a : Act} {n : Nm} (h : ¬ a.of n) : (s.heed a).sl n = s.sl n := by
  cases a with
  | note v t => rfl
  | put m x => exact upd_other _ _ fun e => h e.symm
  | mark t => rfl
  | drop m => exact upd_other _ _ fun e => h e.symm
theorem snoc_ind {α : Type} {P : List α → Prop} (h0 : P []) (h1 : ∀ l a, P l → P (l ++ [a])) (l : List α) : P l := by
  have h : ∀ m : List α, P m.reverse := by
    intro m
    induction m with
    | nil => exact h0
    | cons a m ih => rw [List.reverse_cons]; exact h1 _ a ih
  have := h l.reverse
  rwa [List.reverse_reverse] at this
/-- A slice is there just where it was put, and nothing spoke of it since. -/
theorem live {l : List Act} {n : Nm} {x : Slot} (h : (run l).sl n = some x) : ∃ pre post, l = pre ++ .put n x :: post ∧ ∀ a ∈ post, ¬ a.of n := by
  revert h
  refine snoc_ind (P := fun l => (run l).sl n = some x → ∃ pre post, l = pre ++ .put n x :: post ∧ ∀ a ∈ post, ¬ a.of n) (fun h => ?_) (fun l a ih h => ?_) l
  · simp [run, St.empty] at h
  · rw [run_snoc] at h
    by_cases ha : a.of n
    · cases a with
      | note v t => exact ha.elim
      | mark t => exact ha.elim
      | put m y =>
        obtain rfl : m = n := ha
        have h2 : upd (run l).sl m (some y) m = some x := h
        rw [upd_same] at h2
        obtain rfl := Option.some.inj h2
        exact ⟨l, [], rfl, fun a ha => by cases ha⟩
      | drop m =>
        obtain rfl : m = n := ha
        have h2 : upd (run l).sl m none m = some x := h
        rw [upd_same] at h2
        cases h2
    · rw [heed_of ha] at h
      obtain ⟨pre, post, rfl, hp⟩ := ih h
      refine ⟨pre, post ++ [a], by simp, fun b hb => ?_⟩
      rcases List.mem_append.1 hb with hb | hb
      · exact hp b hb
      · simp at hb; subst hb; exact ha
theorem run_post {n : Nm} {x : Slot} (pre : List Act) : ∀ (post : List Act), (∀ a ∈ post, ¬ a.of n) → (run (pre ++ .put n x :: post)).sl n = some x := by
  refine snoc_ind (fun _ => ?_) (fun l a ih h => ?_)
  · rw [run_snoc]; exact upd_same _ _ _
  · rw [show pre ++ Act.put n x :: (l ++ [a]) = (pre ++ Act.put n x :: l) ++ [a] by simp, run_snoc, heed_of (h a (by simp))]
    exact ih fun b hb => h b (by simp [hb])
/-- What is there behind all is there behind each part that holds its put. -/
theorem live_take {l : List Act} {n : Nm} {x : Slot} (h : (run l).sl n = some x) {j k : Nat} (hj : Act.put n x ∈ l.take j) (hjk : j ≤ k) (hu : ∀ (i i' : Nat), l[i]? = some (.put n x) → l[i']? = some (.put n x) → i = i') : (run (l.take k)).sl n = some x := by
  obtain ⟨pre, post, rfl, hp⟩ := live h
  obtain ⟨i, hi⟩ := List.getElem?_of_mem hj
  have hij : i < j := by have := (List.getElem?_eq_some_iff.1 hi).1; rw [List.length_take] at this; omega
  rw [List.getElem?_take, if_pos hij] at hi
  have e := hu i pre.length hi (by simp)
  subst e
  have h1 : (pre ++ Act.put n x :: post).take k = pre ++ Act.put n x :: post.take (k - (pre.length + 1)) := by
    rw [List.take_append, List.take_of_length_le (by omega), show k - pre.length = (k - (pre.length + 1)) + 1 by omega, List.take_succ_cons]
  rw [h1]
  exact run_post pre _ fun a ha => hp a (List.mem_of_mem_take ha)
/-- Whatever a store tells was put. -/
theorem run_put {l : List Act} {n : Nm} {x : Slot} (h : (run l).sl n = some x) : Act.put n x ∈ l := by
  obtain ⟨pre, post, rfl, _⟩ := live h
  simp
end Go.Proofs.YtendnkklbeiegaaGreatDoor.StoreP
namespace Go.Proofs.YtendnkklbeiegaaGreatDoor.PageP
open DiskP

end Go.Proofs.YtendnkklbeiegaaGreatDoor.PageP
namespace Go.Proofs.YtendnkklbeiegaaGreatDoor.PageP
open DiskP

theorem secs_len (size a : Nat) (kind : UInt8) (mark : Int) (b : List UInt8) (k : Nat) : (secs size a kind mark b k).length = k := by simp [secs]
theorem least (P : Nat → Prop) (n : Nat) : (∀ i, i < n → P i) ∨ ∃ j, j < n ∧ ¬ P j ∧ ∀ k, k < j → P k := by
  induction n with
  | zero => exact .inl fun i hi => absurd hi (by omega)
  | succ n ih =>
    rcases ih with h | ⟨j, h1, h2, h3⟩
    · by_cases hp : P n
      · refine .inl fun i hi => ?_
        by_cases he : i = n
        · exact he ▸ hp
        · exact h i (by omega)
      · exact .inr ⟨n, by omega, hp, h⟩
    · exact .inr ⟨j, by omega, h2, h3⟩
end Go.Proofs.YtendnkklbeiegaaGreatDoor.PageP
namespace Go.Proofs.YtendnkklbeiegaaGreatDoor.JourP
open DiskP PageP

structure Rec where
  kind : UInt8
  body : List UInt8
def Rec.bytes (r : Rec) : List UInt8 := r.kind :: r.body
theorem Rec.bytes_len (r : Rec) : r.bytes.length = 1 + r.body.length := by simp [Rec.bytes]; omega
/-- How many sectors so many bytes need. -/
def nd (size len : Nat) : Nat := (need size len).toNat
theorem need_ge {size len : Nat} (h1 : 19 ≤ size) (h2 : size ≤ 4096) (h3 : len ≤ 1073741824) : 1 ≤ need size len := by
  unfold need
  rw [if_neg (by omega)]
  split <;> omega
theorem nd_eq {size len : Nat} (h1 : 19 ≤ size) (h2 : size ≤ 4096) (h3 : len ≤ 1073741824) : need size len = (nd size len : Int) ∧ 1 ≤ nd size len := by
  have := need_ge h1 h2 h3
  unfold nd
  omega
theorem need_zero {size : Nat} (h1 : 19 ≤ size) (h2 : size ≤ 4096) : need size 0 = 1 := by
  unfold need
  rw [if_neg (by omega)]
  have : ((0 : Int) + ((size : Int) - 18) - 1) / ((size : Int) - 18) = 0 := Int.ediv_eq_zero_of_lt (by omega) (by omega)
  rw [this, if_pos (by decide)]
def Rec.nd (size : Nat) (r : Rec) : Nat := JourP.nd size r.bytes.length
def sumNd (size : Nat) (rs : List Rec) : Nat := (rs.map (Rec.nd size)).sum
theorem sumNd_append (size : Nat) (a b : List Rec) : sumNd size (a ++ b) = sumNd size a + sumNd size b := by simp [sumNd]
theorem sumNd_one (size : Nat) (r : Rec) : sumNd size [r] = r.nd size := by simp [sumNd]
/-- Where the k-th record begins, in its half. -/
def pos (size : Nat) (rs : List Rec) (k : Nat) : Nat := 1 + sumNd size (rs.take k)
theorem pos_succ {size : Nat} {rs : List Rec} {k : Nat} {r : Rec} (h : rs[k]? = some r) : pos size rs (k + 1) = pos size rs k + r.nd size := by
  obtain ⟨hk, rfl⟩ := List.getElem?_eq_some_iff.1 h
  unfold pos
  rw [List.take_succ_eq_append_getElem hk, sumNd_append, sumNd_one]
  omega
theorem pos_mono (size : Nat) (rs : List Rec) {i j : Nat} (h : i ≤ j) : pos size rs i ≤ pos size rs j := by
  unfold pos
  rw [show rs.take i = (rs.take j).take i by rw [List.take_take, Nat.min_eq_left h]]
  have := congrArg (sumNd size) (List.take_append_drop i (rs.take j))
  rw [sumNd_append] at this
  omega
theorem pos_take (size : Nat) (rs : List Rec) {i k : Nat} (h : i ≤ k) : pos size (rs.take k) i = pos size rs i := by
  unfold pos
  rw [List.take_take, Nat.min_eq_left h]
theorem pos_snoc (size : Nat) (rs : List Rec) (r : Rec) {i : Nat} (h : i ≤ rs.length) : pos size (rs ++ [r]) i = pos size rs i := by
  unfold pos
  rw [List.take_append_of_le_length h]
theorem pos_all (size : Nat) (rs : List Rec) : pos size rs rs.length = 1 + sumNd size rs := by unfold pos; rw [List.take_length]
def recMark (e i : Nat) : Int := (e : Int) * 1048576 + (i : Int) + 1
def headS (size e : Nat) : Sect := ⟨some (sect size 72 (e : Int) [] true), false⟩
def secS (size e i : Nat) (r : Rec) (j : Nat) : Sect := ⟨some (sect size 82 (recMark e i) (r.bytes.drop (j * (size - 18))) (j == 0)), false⟩
def recS (size e i : Nat) (r : Rec) : List Sect := (List.range (r.nd size)).map (secS size e i r)
theorem recS_len (size e i : Nat) (r : Rec) : (recS size e i r).length = r.nd size := by simp [recS]
def recsS (size e : Nat) : Nat → List Rec → List Sect
  | _, [] => []
  | i, r :: rs => recS size e i r ++ recsS size e (i + 1) rs
theorem recsS_append (size e : Nat) : ∀ (a b : List Rec) (i : Nat), recsS size e i (a ++ b) = recsS size e i a ++ recsS size e (i + a.length) b
  | [], b, i => by simp [recsS]
  | r :: a, b, i => by
    rw [List.cons_append, recsS, recsS_append size e a b (i + 1), recsS, List.append_assoc]
    simp only [List.length_cons]
    rw [show i + 1 + a.length = i + (a.length + 1) by omega]
theorem recsS_len (size e : Nat) : ∀ (a : List Rec) (i : Nat), (recsS size e i a).length = sumNd size a
  | [], i => rfl
  | r :: a, i => by rw [recsS, List.length_append, recS_len, recsS_len size e a (i + 1)]; simp [sumNd]
def halfS (size e : Nat) (rs : List Rec) : List Sect := headS size e :: recsS size e 0 rs
theorem halfS_len (size e : Nat) (rs : List Rec) : (halfS size e rs).length = 1 + sumNd size rs := by simp [halfS, recsS_len]; omega
/-- What stands in the j-th sector of a half. -/
def cellS (size e : Nat) (rs : List Rec) (j : Nat) : Sect := (halfS size e rs).getD j (zeroS size)
theorem cell_head (size e : Nat) (rs : List Rec) : cellS size e rs 0 = headS size e := rfl
theorem cell_zero (size e : Nat) (rs : List Rec) {j : Nat} (h : 1 + sumNd size rs ≤ j) : cellS size e rs j = zeroS size := by
  unfold cellS
  rw [List.getD_eq_getElem?_getD, List.getElem?_eq_none (by rw [halfS_len]; exact h)]
  rfl
theorem halfS_append (size e : Nat) (a b : List Rec) : halfS size e (a ++ b) = halfS size e a ++ recsS size e a.length b := by
  unfold halfS
  rw [recsS_append, Nat.zero_add]
  rfl
theorem cell_append (size e : Nat) (a b : List Rec) {j : Nat} (h : j < 1 + sumNd size a) : cellS size e (a ++ b) j = cellS size e a j := by
  unfold cellS
  rw [halfS_append, List.getD_eq_getElem?_getD, List.getD_eq_getElem?_getD, List.getElem?_append_left (by rw [halfS_len]; exact h)]
theorem cell_take (size e : Nat) (rs : List Rec) (k : Nat) {j : Nat} (h : j < pos size rs k) : cellS size e (rs.take k) j = cellS size e rs j := by
  have := cell_append size e (rs.take k) (rs.drop k) (j := j) h
  rw [List.take_append_drop] at this
  exact this.symm
theorem cell_rec (size e : Nat) (rs : List Rec) {k : Nat} {r : Rec} (h : rs[k]? = some r) {j : Nat} (hj : j < r.nd size) : cellS size e rs (pos size rs k + j) = secS size e k r j := by
  obtain ⟨hk, rfl⟩ := List.getElem?_eq_some_iff.1 h
  have e1 : rs = rs.take k ++ (rs[k] :: rs.drop (k + 1)) := by rw [← List.drop_eq_getElem_cons hk, List.take_append_drop]
  have e2 : halfS size e rs = halfS size e (rs.take k) ++ (recS size e k rs[k] ++ recsS size e (k + 1) (rs.drop (k + 1))) := by
    conv => lhs; rw [e1]
    rw [halfS_append, List.length_take, Nat.min_eq_left (by omega), recsS]
  unfold cellS
  rw [e2, List.getD_eq_getElem?_getD, List.getElem?_append_right (by rw [halfS_len]; unfold pos; omega), halfS_len,
    show pos size rs k + j - (1 + sumNd size (rs.take k)) = j by unfold pos; omega, List.getElem?_append_left (by rw [recS_len]; exact hj)]
  simp [recS, hj]
/-- What holds of a disk with a log in the half at b; the other half is at o. -/
structure Base (d : Dsk) (b o half e : Nat) (rs : List Rec) : Prop where
  off : d.off = false
  s19 : 19 ≤ d.size
  s40 : d.size ≤ 4096
  h2 : 2 ≤ half
  lb : b + half ≤ d.last.length
  lo : o + half ≤ d.last.length
  apart : b + half ≤ o ∨ o + half ≤ b
  e1 : 1 ≤ e
  e6 : e ≤ 1000000
  cnt : rs.length ≤ 1000000
  small : ∀ r ∈ rs, r.body.length ≤ 4000
  room : 1 + sumNd d.size rs ≤ half
/-- The head of a half is none, or an older one's. -/
def Older (d : Dsk) (o e : Nat) : Prop := d.told[o]? = some (zeroS d.size) ∨ ∃ m, 1 ≤ m ∧ m < e ∧ d.told[o]? = some (headS d.size m)
/-- A log that may be broken behind its first records: what is told of its half. -/
structure Dam (d : Dsk) (b o half e : Nat) (rs : List Rec) (lasts : Nat) : Prop where
  base : Base d b o half e rs
  lle : lasts ≤ rs.length
  sure : ∀ j, j < pos d.size rs lasts → d.told[b + j]? = some (cellS d.size e rs j)
  may : ∀ j, j < half → d.told[b + j]? = some (cellS d.size e rs j) ∨ d.told[b + j]? = some (zeroS d.size) ∨ d.told[b + j]? = some tornS
  old : Older d o e
/-- A log that stands whole; its first records last. -/
structure Inv (d : Dsk) (b o half e : Nat) (rs : List Rec) (lasts : Nat) : Prop where
  base : Base d b o half e rs
  lle : lasts ≤ rs.length
  told : ∀ j, j < half → d.told[b + j]? = some (cellS d.size e rs j)
  last : ∀ j, j < half → d.last[b + j]? = some (if j < pos d.size rs lasts then cellS d.size e rs j else zeroS d.size)
  wait : ∀ x ∈ d.wait, (∃ j, pos d.size rs lasts ≤ j ∧ j < pos d.size rs rs.length ∧ x = (b + j, cellS d.size e rs j)) ∨ ((x.1 < b ∨ b + half ≤ x.1) ∧ (x.1 < o ∨ o + half ≤ x.1))
  old : Older d o e
theorem pos_ge (size : Nat) (rs : List Rec) (k : Nat) : 1 ≤ pos size rs k := by unfold pos; omega
theorem pos_le {size : Nat} {rs : List Rec} {k : Nat} (h : k ≤ rs.length) : pos size rs k ≤ 1 + sumNd size rs := by
  rw [← pos_all]; exact pos_mono size rs h
theorem Inv.dam {d : Dsk} {b o half e : Nat} {rs : List Rec} {lasts : Nat} (h : Inv d b o half e rs lasts) : Dam d b o half e rs rs.length where
  base := h.base
  lle := Nat.le_refl _
  sure := fun j hj => h.told j (by have := h.base.room; rw [pos_all] at hj; omega)
  may := fun j hj => .inl (h.told j hj)
  old := h.old
theorem told_at (d : Dsk) (j : Nat) (hj : j < d.last.length) : d.told[j]? = some ((lastW d.wait j).getD (d.last[j]'hj)) := applyW_get _ _ _ hj
/-- What a cut leaves. -/
theorem Inv.cut {d : Dsk} {b o half e : Nat} {rs : List Rec} {lasts : Nat} (h : Inv d b o half e rs lasts) (keep : List Bool) (torn : Int) : Dam (d.cut keep torn).on b o half e rs lasts := by
  have e0 : (d.cut keep torn).on = ⟨d.size, applyW d.last (keepW keep torn tornS 0 d.wait), [], false⟩ := by
    unfold Dsk.cut Dsk.on
    simp [h.base.off]
  have hlen : (applyW d.last (keepW keep torn tornS 0 d.wait)).length = d.last.length := applyW_length _ _
  have ht : ∀ j, j < d.last.length → ((d.cut keep torn).on).told[j]? = some ((lastW (keepW keep torn tornS 0 d.wait) j).getD (d.last.getD j tornS)) := by
    intro j hj
    rw [e0]
    show (applyW d.last (keepW keep torn tornS 0 d.wait))[j]? = _
    rw [applyW_get _ _ _ hj, List.getD_eq_getElem?_getD, List.getElem?_eq_getElem hj]
    rfl
  have hs : ((d.cut keep torn).on).size = d.size := by rw [e0]
  have hl : ((d.cut keep torn).on).last.length = d.last.length := by rw [e0]; exact hlen
  have hb := h.base
  have far : ∀ j, j < d.last.length → ((b ≤ j ∧ j < b + half) ∨ (o ≤ j ∧ j < o + half)) → (∀ i, pos d.size rs lasts ≤ i → i < half → b + i ≠ j) → ((d.cut keep torn).on).told[j]? = d.last[j]? := by
    intro j hj hh hn
    rw [ht j hj, lastW_none (fun x hx => ?_)]
    · rw [List.getD_eq_getElem?_getD, List.getElem?_eq_getElem hj]; rfl
    · obtain ⟨y, hy, hxy⟩ := keepW_sect hx
      rcases h.wait y hy with ⟨i, h1, h2, rfl⟩ | h1
      · rw [← hxy]
        exact hn i h1 (by have := hb.room; rw [pos_all] at h2; omega)
      · rw [← hxy]
        omega
  have ot : d.told[o]? = d.last[o]? := by
    have ho : o < d.last.length := by have := hb.lo; have := hb.h2; omega
    rw [told_at d o ho, lastW_none (fun x hx => ?_)]
    · rw [List.getElem?_eq_getElem ho]; rfl
    · rcases h.wait x hx with ⟨i, h1, h2, rfl⟩ | h1
      · have := hb.apart
        have := hb.room
        rw [pos_all] at h2
        show b + i ≠ o
        omega
      · have := hb.h2
        omega
  refine ⟨⟨by rw [e0], by rw [hs]; exact hb.s19, by rw [hs]; exact hb.s40, hb.h2, by rw [hl]; exact hb.lb, by rw [hl]; exact hb.lo, hb.apart, hb.e1, hb.e6, hb.cnt, hb.small, by rw [hs]; exact hb.room⟩, h.lle, fun j hj => ?_, fun j hj => ?_, ?_⟩
  · rw [hs] at hj ⊢
    have hp := pos_le (size := d.size) h.lle
    have hr := hb.room
    have hlb := hb.lb
    rw [far (b + j) (by omega) (.inl (by omega)) (fun i h1 h2 => by omega), h.last j (by omega), if_pos hj]
  · rw [hs]
    have hlb := hb.lb
    rw [ht (b + j) (by omega)]
    cases hw : lastW (keepW keep torn tornS 0 d.wait) (b + j) with
    | none =>
      rw [Option.getD_none, List.getD_eq_getElem?_getD, h.last j hj, Option.getD_some]
      split
      · exact .inl rfl
      · exact .inr (.inl rfl)
    | some s =>
      rw [Option.getD_some]
      rcases keepW_mem (lastW_mem hw) with hm | ⟨hm, _⟩
      · rcases h.wait _ hm with ⟨i, h1, h2, hx⟩ | h1
        · injection hx with hx1 hx2
          obtain rfl : i = j := by omega
          exact .inl (by rw [hx2])
        · exact absurd h1 (by simp only; omega)
      · simp only at hm
        exact .inr (.inr (by rw [hm]))
  · have ho : o < d.last.length := by have := hb.lo; have := hb.h2; omega
    have hapart := hb.apart
    have e1 := far o ho (.inr (by have := hb.h2; omega)) (fun i h1 h2 => by omega)
    unfold Older
    rw [e1, ← ot, hs]
    exact h.old
theorem keepW_none {α : Type} (z : α) : ∀ (ws : List (Nat × α)) (i : Nat), keepW [] (-1) z i ws = []
  | [], _ => rfl
  | x :: ws, i => by
    rw [keepW_cons, keepW_none z ws (i + 1)]
    unfold keep1
    rw [if_neg (by omega)]
    rfl
theorem Inv.told_o {d : Dsk} {b o half e : Nat} {rs : List Rec} {lasts : Nat} (h : Inv d b o half e rs lasts) : d.told[o]? = d.last[o]? := by
  have hb := h.base
  have ho : o < d.last.length := by have := hb.lo; have := hb.h2; omega
  rw [told_at d o ho, lastW_none (fun x hx => ?_)]
  · rw [List.getElem?_eq_getElem ho]; rfl
  · rcases h.wait x hx with ⟨i, h1, h2, rfl⟩ | h1
    · have := hb.apart
      have := hb.room
      rw [pos_all] at h2
      show b + i ≠ o
      omega
    · have := hb.h2
      omega
/-- What a cut leaves that keeps nothing. -/
theorem Inv.lost {d : Dsk} {b o half e : Nat} {rs : List Rec} {lasts : Nat} (h : Inv d b o half e rs lasts) : Dam (d.cut [] (-1)).on b o half e (rs.take lasts) lasts := by
  have e0 : (d.cut [] (-1)).on = ⟨d.size, d.last, [], false⟩ := by
    unfold Dsk.cut Dsk.on
    simp [h.base.off, keepW_none, applyW]
  have hb := h.base
  have ht : ∀ j : Nat, ((d.cut [] (-1)).on).told[j]? = d.last[j]? := fun j => by rw [e0]; rfl
  have hs : ((d.cut [] (-1)).on).size = d.size := by rw [e0]
  have hl : ((d.cut [] (-1)).on).last.length = d.last.length := by rw [e0]
  have hT : 1 + sumNd d.size (rs.take lasts) ≤ half := by
    have h1 := pos_le (size := d.size) h.lle
    have := hb.room
    unfold pos at h1
    omega
  have hple := pos_le (size := d.size) h.lle
  have hroom := hb.room
  refine ⟨⟨by rw [e0], by rw [hs]; exact hb.s19, by rw [hs]; exact hb.s40, hb.h2, by rw [hl]; exact hb.lb, by rw [hl]; exact hb.lo, hb.apart, hb.e1, hb.e6, by have := hb.cnt; rw [List.length_take]; omega, fun r hr => hb.small r (List.mem_of_mem_take hr), by rw [hs]; exact hT⟩, by rw [List.length_take]; have := h.lle; omega, fun j hj => ?_, fun j hj => ?_, ?_⟩
  · rw [hs] at hj ⊢
    rw [pos_take d.size rs (Nat.le_refl _)] at hj
    rw [ht, h.last j (by omega), if_pos hj, cell_take _ _ _ _ hj]
  · rw [ht, h.last j hj, hs]
    by_cases hp : j < pos d.size rs lasts
    · rw [if_pos hp]; exact .inl (by rw [cell_take _ _ _ _ hp])
    · rw [if_neg hp]; exact .inr (.inl rfl)
  · unfold Older
    rw [ht, ← h.told_o, hs]
    exact h.old
/- ### What is told of a sector -/
theorem rd_zero (size : Nat) (h : 19 ≤ size) : rd (List.replicate size 0) = none := by
  unfold rd rdOK
  rw [if_neg]
  intro hc
  have : decide ((List.replicate size (0 : UInt8)).getD 0 0 ≠ 0) = false := by
    rw [decide_eq_false_iff_not]
    simp [List.getD, show 0 < size by omega]
  rw [this] at hc
  simp at hc
theorem getP_no_down (d : Dsk) (at_ : Int) (ho : d.off = false) : ∀ (fuel i : Nat) (hd : Sec) (out : List UInt8), (getP d at_ fuel i hd out).1 ≠ 10 := by
  intro fuel
  induction fuel with
  | zero => intro i hd out; unfold getP; decide
  | succ fuel ih =>
    intro i hd out
    unfold getP
    split
    · unfold Dsk.readE
      rw [ho]
      split
      · decide
      · rw [if_neg (by decide)]
        split
        · split <;> decide
        · decide
    · split
      · decide
      · split
        · decide
        · split
          · decide
          · simp only
            split
            · split
              · decide
              · split
                · show (0 : Int) ≠ 10; decide
                · exact ih _ _ _
            · split
              · decide
              · split
                · show (0 : Int) ≠ 10; decide
                · exact ih _ _ _
theorem getR_no_down (d : Dsk) (at_ : Int) (ho : d.off = false) : (getR d at_).1 ≠ 10 := by
  unfold getR
  split
  · decide
  · exact getP_no_down d at_ ho _ _ _ _
theorem getR_zero (d : Dsk) (a : Nat) (ho : d.off = false) (h : d.told[a]? = some (zeroS d.size)) : getR d a = (2, 0, 0, [], 0) := by
  obtain ⟨h1, h2⟩ := read_told d a _ _ h ho
  have hlt : a < d.last.length := by rw [← told_len]; exact (List.getElem?_eq_some_iff.1 h).1
  unfold getR
  rw [if_neg (by unfold Dsk.has; simp; omega), Int.toNat_natCast]
  obtain ⟨f, hf⟩ : ∃ f, d.last.length - a = f + 1 := ⟨d.last.length - a - 1, by omega⟩
  rw [hf]
  unfold getP
  rw [show (a : Int) + ((0 : Nat) : Int) = (a : Int) by omega, if_neg (by rw [h1]; simp), if_pos ⟨rfl, by rw [h2]; exact plain_zero _⟩]
theorem getR_head (d : Dsk) (a m : Nat) (ho : d.off = false) (h1 : 19 ≤ d.size) (h2 : d.size ≤ 4096) (hm : m ≤ 1000000) (h : d.told[a]? = some (headS d.size m)) : getR d a = (0, 72, (m : Int), [], 1) := by
  have hlt : a < d.last.length := by rw [← told_len]; exact (List.getElem?_eq_some_iff.1 h).1
  have := getR_stands d a 72 (m : Int) [] 1 (by decide) (by omega) (by omega) ho (need_zero h1 h2) (Nat.le_refl _) (by omega) (fun i hi => by
    obtain rfl : i = 0 := by omega
    exact ⟨false, by simp only [Nat.add_zero, Nat.zero_mul, List.drop_zero]; exact h⟩)
  exact this
/-- A record all of whose sectors stand. -/
theorem getR_rec {d : Dsk} {b o half e : Nat} {rs : List Rec} (hb : Base d b o half e rs) {k : Nat} {r : Rec} (hr : rs[k]? = some r) (hS : ∀ j, j < r.nd d.size → d.told[b + pos d.size rs k + j]? = some (secS d.size e k r j)) :
    getR d ((b + pos d.size rs k : Nat) : Int) = (0, 82, recMark e k, r.bytes, ((r.nd d.size : Nat) : Int)) := by
  have hk := (List.getElem?_eq_some_iff.1 hr).1
  have hsm := hb.small r (List.mem_of_getElem? hr)
  have hbl := r.bytes_len
  obtain ⟨n1, n2⟩ := nd_eq (size := d.size) (len := r.bytes.length) hb.s19 hb.s40 (by omega)
  have hps := pos_succ (size := d.size) hr
  have hple := pos_le (size := d.size) (rs := rs) (k := k + 1) (by omega)
  have hroom := hb.room
  have hlb := hb.lb
  have hcnt := hb.cnt
  have he6 := hb.e6
  refine getR_stands d (b + pos d.size rs k) 82 (recMark e k) r.bytes (r.nd d.size) (by decide) ?_ ?_ hb.off n1 n2 (by omega) (fun i hi => ⟨false, hS i hi⟩)
  · unfold recMark; omega
  · unfold recMark; omega
theorem Dam.next {d : Dsk} {b o half e : Nat} {rs : List Rec} {lasts : Nat} (h : Dam d b o half e rs lasts) {k : Nat} {r : Rec} (hr : rs[k]? = some r) :
    getR d ((b + pos d.size rs k : Nat) : Int) = (0, 82, recMark e k, r.bytes, ((r.nd d.size : Nat) : Int)) ∨
    ((getR d ((b + pos d.size rs k : Nat) : Int)).1 ≠ 0 ∧ lasts ≤ k) := by
  have hb := h.base
  have hk := (List.getElem?_eq_some_iff.1 hr).1
  have hsm := hb.small r (List.mem_of_getElem? hr)
  have hbl := r.bytes_len
  obtain ⟨n1, n2⟩ := nd_eq (size := d.size) (len := r.bytes.length) hb.s19 hb.s40 (by omega)
  have hps := pos_succ (size := d.size) hr
  have hple := pos_le (size := d.size) (rs := rs) (k := k + 1) (by omega)
  have hroom := hb.room
  have hlb := hb.lb
  have hcnt := hb.cnt
  have he6 := hb.e6
  rcases least (fun j => d.told[b + pos d.size rs k + j]? = some (secS d.size e k r j)) (r.nd d.size) with hall | ⟨j, j1, j2, j3⟩
  · exact .inl (getR_rec hb hr hall)
  · refine .inr ⟨?_, ?_⟩
    · obtain ⟨mm, e1, e2, e3, e4⟩ := need_nat d.size r.bytes.length (by omega)
      have hmm : mm = r.nd d.size := by unfold Rec.nd; omega
      have hc := cell_rec d.size e rs hr j1
      have hmay := h.may (pos d.size rs k + j) (by omega)
      rw [hc, ← Nat.add_assoc] at hmay
      have hbad : d.readE (((b + pos d.size rs k : Nat) : Int) + (j : Int)) ≠ 0 ∨ rd (d.readL (((b + pos d.size rs k : Nat) : Int) + (j : Int))) = none ∨ (0 < j ∧ ∃ x, rd (d.readL (((b + pos d.size rs k : Nat) : Int) + (j : Int))) = some x ∧ x.mark ≠ recMark e k) := by
        rw [show ((b + pos d.size rs k : Nat) : Int) + (j : Int) = ((b + pos d.size rs k + j : Nat) : Int) by omega]
        rcases hmay with hm | hm | hm
        · exact absurd hm j2
        · obtain ⟨f1, f2⟩ := read_told d _ _ _ hm hb.off
          exact .inr (.inl (by rw [f2]; exact rd_zero _ hb.s19))
        · refine .inl ?_
          unfold Dsk.readE
          rw [show d.has ((b + pos d.size rs k + j : Nat) : Int) = true by unfold Dsk.has; simp; omega, hb.off, Int.toNat_natCast, hm]
          simp [tornS]
      have := get_broken d (b + pos d.size rs k) 82 (recMark e k) r.bytes mm j hb.s19 (by decide) (by omega) (by unfold recMark; omega) (by unfold recMark; omega) hb.off (fun i hi => ⟨false, j3 i hi⟩) (by omega) (fun i a1 a2 => e3 i a1 a2) hbad j 0 (d.last.length - (b + pos d.size rs k)) ⟨0, 0, 0, false, []⟩ rfl (by omega) (fun h => absurd h (by omega))
      rw [Nat.zero_mul, List.take_zero] at this
      unfold getR
      rw [if_neg (by unfold Dsk.has; simp; omega), Int.toNat_natCast]
      exact this
    · rcases Nat.lt_or_ge k lasts with hlt | hge
      · exfalso
        have hp := pos_mono d.size rs (show k + 1 ≤ lasts by omega)
        have hs := h.sure (pos d.size rs k + j) (by omega)
        rw [cell_rec d.size e rs hr j1, ← Nat.add_assoc] at hs
        exact j2 hs
      · exact hge
theorem Dam.end_ {d : Dsk} {b o half e : Nat} {rs : List Rec} {lasts : Nat} (h : Dam d b o half e rs lasts) (hlt : pos d.size rs rs.length < half) : (getR d ((b + pos d.size rs rs.length : Nat) : Int)).1 ≠ 0 := by
  have hb := h.base
  have hlb := hb.lb
  have hmay := h.may _ hlt
  rw [cell_zero d.size e rs (by rw [pos_all]; omega)] at hmay
  rcases hmay with hm | hm | hm
  · rw [getR_zero d _ hb.off hm]; decide
  · rw [getR_zero d _ hb.off hm]; decide
  · unfold getR
    rw [if_neg (by unfold Dsk.has; simp; omega), Int.toNat_natCast]
    obtain ⟨f, hf⟩ : ∃ f, d.last.length - (b + pos d.size rs rs.length) = f + 1 := ⟨_, (Nat.succ_pred_eq_of_pos (by omega)).symm⟩
    rw [hf]
    have hE : d.readE (((b + pos d.size rs rs.length : Nat) : Int) + ((0 : Nat) : Int)) = 9 := by
      rw [show ((b + pos d.size rs rs.length : Nat) : Int) + ((0 : Nat) : Int) = ((b + pos d.size rs rs.length : Nat) : Int) by omega]
      unfold Dsk.readE
      rw [show d.has ((b + pos d.size rs rs.length : Nat) : Int) = true by unfold Dsk.has; simp; omega, hb.off, Int.toNat_natCast, hm]
      simp [tornS]
    unfold getP
    rw [if_pos (by rw [hE]; decide), hE]
    decide
theorem Dam.head {d : Dsk} {b o half e : Nat} {rs : List Rec} {lasts : Nat} (h : Dam d b o half e rs lasts) : getR d (b : Int) = (0, 72, (e : Int), [], 1) := by
  have hb := h.base
  have := h.sure 0 (pos_ge _ _ _)
  rw [cell_head, Nat.add_zero] at this
  exact getR_head d b e hb.off hb.s19 hb.s40 hb.e6 this
theorem Older.get {d : Dsk} {o e : Nat} (h : Older d o e) (ho : d.off = false) (h1 : 19 ≤ d.size) (h2 : d.size ≤ 4096) (he : e ≤ 1000000) : getR d (o : Int) = (2, 0, 0, [], 0) ∨ ∃ m : Nat, 1 ≤ m ∧ m < e ∧ getR d (o : Int) = (0, 72, (m : Int), [], 1) := by
  rcases h with h | ⟨m, m1, m2, h⟩
  · exact .inl (getR_zero d o ho h)
  · exact .inr ⟨m, m1, m2, getR_head d o m ho h1 h2 (by omega) h⟩
/- ### Add, Sync -/
theorem Inv.sync {d : Dsk} {b o half e : Nat} {rs : List Rec} {lasts : Nat} (h : Inv d b o half e rs lasts) : Inv d.flush b o half e rs rs.length := by
  have ht : d.flush.told = d.told := rfl
  have hl : d.flush.last = d.told := rfl
  have hll : d.flush.last.length = d.last.length := applyW_length _ _
  have hb := h.base
  refine ⟨⟨hb.off, hb.s19, hb.s40, hb.h2, by rw [hll]; exact hb.lb, by rw [hll]; exact hb.lo, hb.apart, hb.e1, hb.e6, hb.cnt, hb.small, hb.room⟩, Nat.le_refl _, h.told, fun j hj => ?_, fun x hx => (by cases hx), h.old⟩
  rw [hl, h.told j hj]
  by_cases hp : j < pos d.size rs rs.length
  · exact congrArg some (if_pos hp).symm
  · have : ¬ j < pos d.flush.size rs rs.length := hp
    rw [if_neg this, cell_zero _ _ _ (by rw [pos_all] at hp; omega)]
    rfl
theorem putD_told_at (d : Dsk) (a : Nat) (kind : UInt8) (mark : Int) (b : List UInt8) (k j : Nat) (ha : a + k ≤ d.last.length) (h1 : a ≤ j) (h2 : j < a + k) :
    (putD d a kind mark b k).told[j]? = some ⟨some (sect d.size kind mark (b.drop ((j - a) * (d.size - 18))) (j - a == 0)), false⟩ := by
  have := told_put d a kind mark b k (j - a) (by omega) ha
  rwa [show a + (j - a) = j by omega] at this
theorem Older.put {d : Dsk} {o e a : Nat} {kind : UInt8} {mark : Int} {b : List UInt8} {k : Nat} (h : Older d o e) (ho : o < a ∨ a + k ≤ o) : Older (putD d a kind mark b k) o e := by
  unfold Older
  rw [told_put_far d a kind mark b k o ho]
  exact h
/-- With one record more. -/
theorem Inv.add {d : Dsk} {b o half e : Nat} {rs : List Rec} {lasts : Nat} (h : Inv d b o half e rs lasts) (r : Rec) (hs : r.body.length ≤ 4000) (hn : rs.length < 1000000) (hr : 1 + sumNd d.size rs + r.nd d.size ≤ half) :
    putE d ((b + pos d.size rs rs.length : Nat) : Int) 82 r.bytes.length = 0 ∧ putN d ((b + pos d.size rs rs.length : Nat) : Int) 82 r.bytes.length = (r.nd d.size : Int) ∧
    Inv (putS d ((b + pos d.size rs rs.length : Nat) : Int) 82 (recMark e rs.length) r.bytes) b o half e (rs ++ [r]) lasts := by
  have hb := h.base
  have hbl := r.bytes_len
  obtain ⟨n1, n2⟩ := nd_eq (size := d.size) (len := r.bytes.length) hb.s19 hb.s40 (by omega)
  have n3 : JourP.nd d.size r.bytes.length = r.nd d.size := rfl
  have hpa := pos_all d.size rs
  have hlb := hb.lb
  have hE : putE d ((b + pos d.size rs rs.length : Nat) : Int) 82 r.bytes.length = 0 := by
    unfold putE
    rw [if_neg (by
      rintro (hx | hx)
      · unfold Dsk.has at hx; simp at hx; omega
      · exact absurd hx (by decide)), if_neg (by omega), hb.off]
    rfl
  refine ⟨hE, by unfold putN; rw [if_pos hE, n1, n3], ?_⟩
  have hput : putS d ((b + pos d.size rs rs.length : Nat) : Int) 82 (recMark e rs.length) r.bytes = putD d (b + pos d.size rs rs.length) 82 (recMark e rs.length) r.bytes (r.nd d.size) := by
    unfold putS
    rw [if_pos hE, n1, n3, Int.toNat_natCast, Int.toNat_natCast]
  rw [hput]
  have hps : pos d.size (rs ++ [r]) lasts = pos d.size rs lasts := pos_snoc _ _ _ h.lle
  have hple := pos_le (size := d.size) h.lle
  have hget : (rs ++ [r])[rs.length]? = some r := by simp
  have hposn : pos d.size (rs ++ [r]) rs.length = pos d.size rs rs.length := pos_snoc _ _ _ (Nat.le_refl _)
  refine ⟨⟨hb.off, hb.s19, hb.s40, hb.h2, hb.lb, hb.lo, hb.apart, hb.e1, hb.e6, by simp; omega, fun x hx => ?_, ?_⟩, by simp; have := h.lle; omega, fun j hj => ?_, fun j hj => ?_, fun x hx => ?_, ?_⟩
  · rcases List.mem_append.1 hx with hx | hx
    · exact hb.small x hx
    · simp at hx; subst hx; exact hs
  · show 1 + sumNd d.size (rs ++ [r]) ≤ half
    rw [sumNd_append, sumNd_one]; omega
  · show (putD d (b + pos d.size rs rs.length) 82 (recMark e rs.length) r.bytes (r.nd d.size)).told[b + j]? = some (cellS d.size e (rs ++ [r]) j)
    by_cases h1 : j < pos d.size rs rs.length
    · rw [told_put_far _ _ _ _ _ _ _ (by omega), h.told j hj, cell_append _ _ _ _ (by omega)]
    · by_cases h2 : j < pos d.size rs rs.length + r.nd d.size
      · rw [putD_told_at _ _ _ _ _ _ _ (by omega) (by omega) (by omega)]
        have := cell_rec d.size e (rs ++ [r]) hget (j := j - pos d.size rs rs.length) (by omega)
        rw [hposn, show pos d.size rs rs.length + (j - pos d.size rs rs.length) = j by omega] at this
        rw [this, show b + j - (b + pos d.size rs rs.length) = j - pos d.size rs rs.length by omega]
        rfl
      · rw [told_put_far _ _ _ _ _ _ _ (by omega), h.told j hj, cell_zero _ _ _ (by omega), cell_zero _ _ _ (by rw [sumNd_append, sumNd_one]; omega)]
  · show d.last[b + j]? = some (if j < pos d.size (rs ++ [r]) lasts then cellS d.size e (rs ++ [r]) j else zeroS d.size)
    rw [hps, h.last j hj]
    by_cases h1 : j < pos d.size rs lasts
    · rw [if_pos h1, if_pos h1, cell_append _ _ _ _ (by omega)]
    · rw [if_neg h1, if_neg h1]
  · have hx : x ∈ d.wait ++ secs d.size (b + pos d.size rs rs.length) 82 (recMark e rs.length) r.bytes (r.nd d.size) := hx
    have hend : pos d.size (rs ++ [r]) (rs ++ [r]).length = pos d.size rs rs.length + r.nd d.size := by rw [pos_all, pos_all, sumNd_append, sumNd_one]; omega
    show (∃ j, pos d.size (rs ++ [r]) lasts ≤ j ∧ j < pos d.size (rs ++ [r]) (rs ++ [r]).length ∧ x = (b + j, cellS d.size e (rs ++ [r]) j)) ∨ ((x.1 < b ∨ b + half ≤ x.1) ∧ (x.1 < o ∨ o + half ≤ x.1))
    rw [hps, hend]
    rcases List.mem_append.1 hx with hx | hx
    · rcases h.wait x hx with ⟨j, h1, h2, rfl⟩ | h1
      · exact .inl ⟨j, h1, by omega, by rw [cell_append _ _ _ _ (by omega)]⟩
      · exact .inr h1
    · simp only [secs, List.mem_map, List.mem_range] at hx
      obtain ⟨i, hi, rfl⟩ := hx
      refine .inl ⟨pos d.size rs rs.length + i, by have := pos_mono d.size rs h.lle; omega, by omega, ?_⟩
      have := cell_rec d.size e (rs ++ [r]) hget (j := i) hi
      rw [hposn] at this
      rw [this, Nat.add_assoc]
      rfl
  · exact h.old.put (by have := hb.apart; omega)
/-- What another writes outside both halves. -/
theorem Inv.out {d : Dsk} {b o half e : Nat} {rs : List Rec} {lasts : Nat} (h : Inv d b o half e rs lasts) (a : Nat) (kind : UInt8) (mark : Int) (bs : List UInt8) (k : Nat) (h1 : a + k ≤ b ∨ b + half ≤ a) (h2 : a + k ≤ o ∨ o + half ≤ a) : Inv (putD d a kind mark bs k) b o half e rs lasts := by
  have hb := h.base
  have hh := hb.h2
  refine ⟨⟨hb.off, hb.s19, hb.s40, hb.h2, hb.lb, hb.lo, hb.apart, hb.e1, hb.e6, hb.cnt, hb.small, hb.room⟩, h.lle, fun j hj => ?_, h.last, fun x hx => ?_, ?_⟩
  · rw [told_put_far _ _ _ _ _ _ _ (by omega)]
    exact h.told j hj
  · have hx : x ∈ d.wait ++ secs d.size a kind mark bs k := hx
    rcases List.mem_append.1 hx with hx | hx
    · exact h.wait x hx
    · simp only [secs, List.mem_map, List.mem_range] at hx
      obtain ⟨i, hi, rfl⟩ := hx
      refine .inr ⟨?_, ?_⟩
      · show a + i < b ∨ b + half ≤ a + i
        omega
      · show a + i < o ∨ o + half ≤ a + i
        omega
  · exact h.old.put (by omega)
/- ### Turn -/
def zerosD (d : Dsk) (a k : Nat) : Dsk := { d with wait := d.wait ++ (List.range k).map fun i => (a + i, zeroS d.size) }
theorem zerosD_zero (d : Dsk) (a : Nat) : zerosD d a 0 = d := by simp [zerosD]
theorem zerosD_succ (d : Dsk) (a k : Nat) : zerosD d a (k + 1) = (zerosD d a k).write (a + k) (List.replicate d.size 0) := by
  simp [zerosD, Dsk.write, List.range_succ, zeroS]
theorem zeros_told (d : Dsk) (a : Nat) : ∀ k, a + k ≤ d.last.length → ∀ i, (zerosD d a k).told[i]? = if a ≤ i ∧ i < a + k then some (zeroS d.size) else d.told[i]? := by
  intro k
  induction k with
  | zero => intro _ i; rw [zerosD_zero, if_neg (by omega)]
  | succ k ih =>
    intro hk i
    rw [zerosD_succ, told_write]
    by_cases h : i = a + k
    · subst h
      rw [List.getElem?_set_self (by rw [told_len]; show a + k < d.last.length; omega), if_pos (by omega)]
      rfl
    · rw [List.getElem?_set_ne (by omega), ih (by omega) i]
      by_cases h2 : a ≤ i ∧ i < a + k
      · rw [if_pos h2, if_pos (by omega)]
      · rw [if_neg h2, if_neg (by omega)]
/-- The disk with the first k records put into the half at b. -/
def putsD (d : Dsk) (b e : Nat) (rs : List Rec) : Nat → Dsk
  | 0 => d
  | k + 1 => match rs[k]? with
    | some r => putD (putsD d b e rs k) (b + pos d.size rs k) 82 (recMark e k) r.bytes (r.nd d.size)
    | none => putsD d b e rs k
theorem putsD_succ {d : Dsk} {b e : Nat} {rs : List Rec} {k : Nat} {r : Rec} (h : rs[k]? = some r) : putsD d b e rs (k + 1) = putD (putsD d b e rs k) (b + pos d.size rs k) 82 (recMark e k) r.bytes (r.nd d.size) := by
  rw [putsD, h]
theorem puts_same (d : Dsk) (b e : Nat) (rs : List Rec) (k : Nat) : (putsD d b e rs k).last = d.last ∧ (putsD d b e rs k).size = d.size ∧ (putsD d b e rs k).off = d.off := by
  induction k with
  | zero => exact ⟨rfl, rfl, rfl⟩
  | succ k ih =>
    rw [putsD]
    split
    · exact ih
    · exact ih
theorem puts_told (d : Dsk) (b e : Nat) (rs : List Rec) (hl : b + (1 + sumNd d.size rs) ≤ d.last.length) : ∀ k, k ≤ rs.length →
    (∀ j, 1 ≤ j → j < pos d.size rs k → (putsD d b e rs k).told[b + j]? = some (cellS d.size e rs j)) ∧ ∀ i, i < b + 1 ∨ b + pos d.size rs k ≤ i → (putsD d b e rs k).told[i]? = d.told[i]? := by
  intro k
  induction k with
  | zero => intro _; exact ⟨fun j h1 h2 => by unfold pos at h2; simp [sumNd] at h2; omega, fun i _ => rfl⟩
  | succ k ih =>
    intro hk
    obtain ⟨h1, h2⟩ := ih (by omega)
    have hr : rs[k]? = some rs[k] := List.getElem?_eq_getElem (by omega)
    obtain ⟨s1, s2, s3⟩ := puts_same d b e rs k
    have hps := pos_succ (size := d.size) hr
    have hple := pos_le (size := d.size) (rs := rs) (k := k + 1) (by omega)
    have hpg := pos_ge d.size rs k
    rw [putsD_succ hr]
    refine ⟨fun j j1 j2 => ?_, fun i hi => ?_⟩
    · by_cases hj : j < pos d.size rs k
      · rw [told_put_far _ _ _ _ _ _ _ (by omega)]
        exact h1 j j1 hj
      · rw [putD_told_at _ _ _ _ _ _ _ (by rw [s1]; omega) (by omega) (by omega), s2]
        have := cell_rec d.size e rs hr (j := j - pos d.size rs k) (by omega)
        rw [show pos d.size rs k + (j - pos d.size rs k) = j by omega] at this
        rw [this, show b + j - (b + pos d.size rs k) = j - pos d.size rs k by omega]
        rfl
    · rw [told_put_far _ _ _ _ _ _ _ (by omega)]
      exact h2 i (by omega)
/-- One record more is put. -/
theorem puts_next {d : Dsk} {b o half e : Nat} {rs : List Rec} (hb : Base d b o half e rs) {k : Nat} {r : Rec} (hr : rs[k]? = some r) :
    putE (putsD d b e rs k) ((b + pos d.size rs k : Nat) : Int) 82 r.bytes.length = 0 ∧ putN (putsD d b e rs k) ((b + pos d.size rs k : Nat) : Int) 82 r.bytes.length = (r.nd d.size : Int) ∧
    putS (putsD d b e rs k) ((b + pos d.size rs k : Nat) : Int) 82 (recMark e k) r.bytes = putsD d b e rs (k + 1) := by
  obtain ⟨s1, s2, s3⟩ := puts_same d b e rs k
  have hk := (List.getElem?_eq_some_iff.1 hr).1
  have hsm := hb.small r (List.mem_of_getElem? hr)
  have hbl := r.bytes_len
  obtain ⟨n1, n2⟩ := nd_eq (size := d.size) (len := r.bytes.length) hb.s19 hb.s40 (by omega)
  have n3 : JourP.nd d.size r.bytes.length = r.nd d.size := rfl
  have hps := pos_succ (size := d.size) hr
  have hple := pos_le (size := d.size) (rs := rs) (k := k + 1) (by omega)
  have hroom := hb.room
  have hlb := hb.lb
  have hE : putE (putsD d b e rs k) ((b + pos d.size rs k : Nat) : Int) 82 r.bytes.length = 0 := by
    unfold putE
    rw [s1, s2, s3, if_neg (by
      rintro (hx | hx)
      · unfold Dsk.has at hx; rw [s1] at hx; simp at hx; omega
      · exact absurd hx (by decide)), if_neg (by omega), hb.off]
    rfl
  refine ⟨hE, by unfold putN; rw [if_pos hE, s2, n1, n3], ?_⟩
  unfold putS
  rw [if_pos hE, s2, n1, n3, Int.toNat_natCast, Int.toNat_natCast, putsD_succ hr]
theorem puts_wl (d : Dsk) (b e : Nat) (rs : List Rec) : ∀ k, k ≤ rs.length → (putsD d b e rs k).wait.length + 1 = d.wait.length + pos d.size rs k := by
  intro k
  induction k with
  | zero => intro _; unfold pos; simp [putsD, sumNd]
  | succ k ih =>
    intro hk
    have hr : rs[k]? = some rs[k] := List.getElem?_eq_getElem (by omega)
    rw [putsD_succ hr, pos_succ hr]
    show ((putsD d b e rs k).wait ++ secs _ _ _ _ _ _).length + 1 = _
    rw [List.length_append, secs_len]
    have := ih (by omega)
    omega
/-- What turning makes of the disk. -/
def fillD (d : Dsk) (b half e : Nat) (rs : List Rec) : Dsk := zerosD (putsD d b e rs rs.length) (b + pos d.size rs rs.length) (half - pos d.size rs rs.length)
def turnD (d : Dsk) (b half e : Nat) (rs : List Rec) : Dsk := (putD (fillD d b half e rs).flush b 72 (e : Int) [] 1).flush
theorem fill_same (d : Dsk) (b half e : Nat) (rs : List Rec) : (fillD d b half e rs).last = d.last ∧ (fillD d b half e rs).size = d.size ∧ (fillD d b half e rs).off = d.off := puts_same d b e rs rs.length
theorem fill_told {d : Dsk} {b o half e : Nat} {rs : List Rec} (hb : Base d b o half e rs) : (∀ j, 1 ≤ j → j < half → (fillD d b half e rs).told[b + j]? = some (cellS d.size e rs j)) ∧ ∀ i, i < b + 1 ∨ b + half ≤ i → (fillD d b half e rs).told[i]? = d.told[i]? := by
  obtain ⟨s1, s2, s3⟩ := puts_same d b e rs rs.length
  have hroom := hb.room
  have hlb := hb.lb
  have hpa := pos_all d.size rs
  obtain ⟨h1, h2⟩ := puts_told d b e rs (by omega) rs.length (Nat.le_refl _)
  have hz := zeros_told (putsD d b e rs rs.length) (b + pos d.size rs rs.length) (half - pos d.size rs rs.length) (by rw [s1]; omega)
  unfold fillD
  refine ⟨fun j j1 j2 => ?_, fun i hi => ?_⟩
  · rw [hz]
    by_cases hj : j < pos d.size rs rs.length
    · rw [if_neg (by omega)]; exact h1 j j1 hj
    · rw [if_pos (by omega), s2, cell_zero _ _ _ (by omega)]
  · rw [hz, if_neg (by omega)]
    exact h2 i (by omega)
/-- The head is put. -/
theorem head_put {d : Dsk} {b o half e : Nat} {rs : List Rec} (hb : Base d b o half e rs) : putE (fillD d b half e rs).flush (b : Int) 72 0 = 0 ∧ putS (fillD d b half e rs).flush (b : Int) 72 (e : Int) [] = putD (fillD d b half e rs).flush b 72 (e : Int) [] 1 := by
  obtain ⟨s1, s2, s3⟩ := fill_same d b half e rs
  have hll : (fillD d b half e rs).flush.last.length = d.last.length := (applyW_length _ _).trans (congrArg List.length s1)
  have hs : (fillD d b half e rs).flush.size = d.size := s2
  have ho : (fillD d b half e rs).flush.off = d.off := s3
  have hlb := hb.lb
  have hh := hb.h2
  have hn := need_zero hb.s19 hb.s40
  have hE : putE (fillD d b half e rs).flush (b : Int) 72 0 = 0 := by
    unfold putE
    rw [hll, hs, ho, if_neg (by
      rintro (hx | hx)
      · unfold Dsk.has at hx; rw [hll] at hx; simp at hx; omega
      · exact absurd hx (by decide)), if_neg (by rw [show ((0 : Nat) : Int) = 0 from rfl, hn]; omega), hb.off]
    rfl
  refine ⟨hE, ?_⟩
  unfold putS
  rw [if_pos (by exact hE), hs, Int.toNat_natCast, show need (d.size : Int) (([] : List UInt8).length : Int) = 1 from hn]
  rfl
theorem turn_inv {d : Dsk} {b o half e : Nat} {rs : List Rec} (hb : Base d b o half e rs) (ho : Older d o e) : Inv (turnD d b half e rs) b o half e rs rs.length ∧ (turnD d b half e rs).wait = [] := by
  obtain ⟨s1, s2, s3⟩ := fill_same d b half e rs
  obtain ⟨h1, h2⟩ := fill_told hb
  have hll : (fillD d b half e rs).flush.last.length = d.last.length := (applyW_length _ _).trans (congrArg List.length s1)
  have hlb := hb.lb
  have hlo := hb.lo
  have hap := hb.apart
  have hh := hb.h2
  have ht : ∀ i : Nat, (turnD d b half e rs).told[i]? = (putD (fillD d b half e rs).flush b 72 (e : Int) [] 1).told[i]? := fun i => rfl
  have ht0 : (turnD d b half e rs).told[b]? = some (headS d.size e) := by
    rw [ht, putD_told_at _ _ _ _ _ _ _ (by rw [hll]; omega) (Nat.le_refl _) (by omega)]
    show some (⟨some (sect (fillD d b half e rs).size 72 (e : Int) (([] : List UInt8).drop ((b - b) * _)) (b - b == 0)), false⟩ : Sect) = _
    rw [s2, Nat.sub_self, Nat.zero_mul, List.drop_zero]
    rfl
  have htf : ∀ i : Nat, i ≠ b → (turnD d b half e rs).told[i]? = (fillD d b half e rs).told[i]? := fun i hi => by
    rw [ht, told_put_far _ _ _ _ _ _ _ (by omega)]
    rfl
  have hs : (turnD d b half e rs).size = d.size := s2
  have hl : (turnD d b half e rs).last = (turnD d b half e rs).told := rfl
  have hlen : (turnD d b half e rs).last.length = d.last.length := (applyW_length _ _).trans hll
  have hpa := pos_all d.size rs
  have hroom := hb.room
  have htold : ∀ j, j < half → (turnD d b half e rs).told[b + j]? = some (cellS d.size e rs j) := fun j hj => by
    by_cases h0 : j = 0
    · subst h0; rw [Nat.add_zero, ht0, cell_head]
    · rw [htf _ (by omega), h1 j (by omega) hj]
  refine ⟨⟨⟨s3.trans hb.off, by rw [hs]; exact hb.s19, by rw [hs]; exact hb.s40, hb.h2, by rw [hlen]; exact hb.lb, by rw [hlen]; exact hb.lo, hb.apart, hb.e1, hb.e6, hb.cnt, hb.small, by rw [hs]; exact hb.room⟩, Nat.le_refl _, fun j hj => by rw [hs]; exact htold j hj, fun j hj => ?_, fun x hx => (by cases hx), ?_⟩, rfl⟩
  · rw [hl, htold j hj, hs]
    by_cases hp : j < pos d.size rs rs.length
    · rw [if_pos hp]
    · rw [if_neg hp, cell_zero _ _ _ (by omega)]
  · unfold Older
    rw [htf o (by omega), h2 o (by omega), hs]
    exact ho
theorem Base.take {d : Dsk} {b o half e : Nat} {rs : List Rec} (hb : Base d b o half e rs) (k : Nat) : Base d b o half e (rs.take k) where
  off := hb.off
  s19 := hb.s19
  s40 := hb.s40
  h2 := hb.h2
  lb := hb.lb
  lo := hb.lo
  apart := hb.apart
  e1 := hb.e1
  e6 := hb.e6
  cnt := by have := hb.cnt; rw [List.length_take]; omega
  small := fun r hr => hb.small r (List.mem_of_mem_take hr)
  room := by
    have h := hb.room
    have := congrArg (sumNd d.size) (List.take_append_drop k rs)
    rw [sumNd_append] at this
    omega
/-- The other half, for the next epoch. -/
theorem Base.over {d : Dsk} {b o half e : Nat} {rs ks : List Rec} (hb : Base d b o half e rs) (he : e < 1000000) (h1 : ks.length ≤ 1000000) (h2 : ∀ r ∈ ks, r.body.length ≤ 4000) (h3 : 1 + sumNd d.size ks ≤ half) : Base d o b half (e + 1) ks :=
  ⟨hb.off, hb.s19, hb.s40, hb.h2, hb.lo, hb.lb, by have := hb.apart; omega, by omega, by omega, h1, h2, h3⟩
theorem Dam.older {d : Dsk} {b o half e : Nat} {rs : List Rec} {lasts : Nat} (h : Dam d b o half e rs lasts) : Older d b (e + 1) := by
  have := h.sure 0 (pos_ge _ _ _)
  rw [cell_head, Nat.add_zero] at this
  exact .inr ⟨e, h.base.e1, by omega, this⟩
/-- A log that is turned to what was found of it. -/
theorem Dam.turn {d : Dsk} {b o half e : Nat} {rs : List Rec} {lasts : Nat} (h : Dam d b o half e rs lasts) (he : e < 1000000) (k : Nat) : Base d o b half (e + 1) (rs.take k) ∧ Inv (turnD d o half (e + 1) (rs.take k)) o b half (e + 1) (rs.take k) (rs.take k).length ∧ (turnD d o half (e + 1) (rs.take k)).wait = [] := by
  have hb := h.base.take k
  have hB := h.base.over he hb.cnt hb.small hb.room
  exact ⟨hB, turn_inv hB h.older⟩
/-- A log that is turned to others. -/
theorem Inv.turn {d : Dsk} {b o half e : Nat} {rs ks : List Rec} {lasts : Nat} (h : Inv d b o half e rs lasts) (he : e < 1000000) (h1 : ks.length ≤ 1000000) (h2 : ∀ r ∈ ks, r.body.length ≤ 4000) (h3 : 1 + sumNd d.size ks ≤ half) :
    Base d o b half (e + 1) ks ∧ Inv (turnD d o half (e + 1) ks) o b half (e + 1) ks ks.length ∧ (turnD d o half (e + 1) ks).wait = [] := by
  have hB := h.base.over he h1 h2 h3
  exact ⟨hB, turn_inv hB h.dam.older⟩
end Go.Proofs.YtendnkklbeiegaaGreatDoor.JourP
namespace Go.Proofs.YtendnkklbeiegaaGreatDoor.StoreP
open DiskP PageP JourP

/-- The sector of a slice. -/
def sliceS (by_ : Nm → List UInt8) (n : Nm) (x : Slot) : Sect := ⟨some (sect 128 83 (x.mark : Int) (by_ n) true), false⟩
/-- What may stand in sector s: nothing yet, or a slice that was put there. -/
def Is (by_ : Nm → List UInt8) (l : List Act) (s : Nat) (t : Sect) : Prop := t = zeroS 128 ∨ ∃ n x, Act.put n x ∈ l ∧ x.at_ = s ∧ t = sliceS by_ n x
structure SInv (by_ : Nm → List UInt8) (d : Dsk) (l : List Act) (lasts : Nat) : Prop where
  off : d.off = false
  len : d.last.length = 512
  lle : lasts ≤ l.length
  told : ∀ n x, (run l).sl n = some x → d.told[x.at_]? = some (sliceS by_ n x)
  cont : ∀ s t, 128 ≤ s → d.last[s]? = some t → Is by_ l s t
  wait : ∀ p ∈ d.wait, 128 ≤ p.1 → Is by_ l p.1 p.2
  sure : ∀ n x, Act.put n x ∈ l.take lasts → (run l).sl n = some x → d.last[x.at_]? = some (sliceS by_ n x) ∧ ∀ p ∈ d.wait, p.1 ≠ x.at_
  range : ∀ n x, Act.put n x ∈ l → 128 ≤ x.at_ ∧ x.at_ < 512 ∧ x.len = (by_ n).length
  uniq : ∀ (i i' : Nat) (n : Nm) (x : Slot) (n' : Nm) (x' : Slot), l[i]? = some (Act.put n x) → l[i']? = some (Act.put n' x') → x.mark = x'.mark → i = i'
  apart : ∀ n x n' x', (run l).sl n = some x → (run l).sl n' = some x' → x.at_ = x'.at_ → n = n'
theorem cut_told {d : Dsk} (ho : d.off = false) (keep : List Bool) (torn : Int) {j : Nat} (hj : j < d.last.length) : ((d.cut keep torn).on).told[j]? = some ((lastW (keepW keep torn tornS 0 d.wait) j).getD (d.last[j]'hj)) := by
  have e0 : (d.cut keep torn).on = ⟨d.size, applyW d.last (keepW keep torn tornS 0 d.wait), [], false⟩ := by
    unfold Dsk.cut Dsk.on
    simp [ho]
  rw [e0]
  exact applyW_get _ _ _ hj
/-- What a cut leaves. -/
theorem SInv.cut {by_ : Nm → List UInt8} {d : Dsk} {l : List Act} {lasts : Nat} (h : SInv by_ d l lasts) (keep : List Bool) (torn : Int) :
    (∀ s t, 128 ≤ s → ((d.cut keep torn).on).told[s]? = some t → Is by_ l s t ∨ t = tornS) ∧
    ∀ n x, Act.put n x ∈ l.take lasts → (run l).sl n = some x → ((d.cut keep torn).on).told[x.at_]? = some (sliceS by_ n x) := by
  have hll : ((d.cut keep torn).on).told.length = d.last.length := by
    have e0 : (d.cut keep torn).on = ⟨d.size, applyW d.last (keepW keep torn tornS 0 d.wait), [], false⟩ := by
      unfold Dsk.cut Dsk.on
      simp [h.off]
    rw [e0]
    show (applyW (applyW d.last (keepW keep torn tornS 0 d.wait)) []).length = _
    rw [applyW_length, applyW_length]
  refine ⟨fun s t hs ht => ?_, fun n x hx hr => ?_⟩
  · have hj : s < d.last.length := by rw [← hll]; exact (List.getElem?_eq_some_iff.1 ht).1
    rw [cut_told h.off keep torn hj] at ht
    have e := Option.some.inj ht
    cases hw : lastW (keepW keep torn tornS 0 d.wait) s with
    | none =>
      rw [hw, Option.getD_none] at e
      exact .inl (h.cont s t hs (by rw [← e]; exact List.getElem?_eq_getElem hj))
    | some a =>
      rw [hw, Option.getD_some] at e
      subst e
      rcases keepW_mem (lastW_mem hw) with hm | ⟨hm, _⟩
      · exact .inl (h.wait _ hm hs)
      · exact .inr hm
  · obtain ⟨h1, h2⟩ := h.sure n x hx hr
    have hj := (List.getElem?_eq_some_iff.1 h1).1
    rw [cut_told h.off keep torn hj, lastW_none (fun p hp => ?_), Option.getD_none, ← h1, List.getElem?_eq_getElem hj]
    obtain ⟨y, hy, hyp⟩ := keepW_sect hp
    rw [← hyp]
    exact h2 y hy
theorem Is.mono {by_ : Nm → List UInt8} {l l' : List Act} {s : Nat} {t : Sect} (h : Is by_ l s t) (hl : ∀ a ∈ l, a ∈ l') : Is by_ l' s t := h.imp id fun ⟨n, x, h1, h2, h3⟩ => ⟨n, x, hl _ h1, h2, h3⟩
/-- Behind a flush. -/
theorem SInv.sync {by_ : Nm → List UInt8} {d : Dsk} {l : List Act} {lasts : Nat} (h : SInv by_ d l lasts) : SInv by_ d.flush l l.length := by
  have hl : d.flush.last = d.told := rfl
  have ht : d.flush.told = d.told := rfl
  refine ⟨h.off, by rw [hl]; exact (applyW_length _ _).trans h.len, Nat.le_refl _, fun n x hx => by rw [ht]; exact h.told n x hx, fun s t hs hst => ?_, fun p hp => (by cases hp), fun n x _ hr => ⟨by rw [hl]; exact h.told n x hr, fun p hp => (by cases hp)⟩, h.range, h.uniq, h.apart⟩
  rw [hl] at hst
  have hj : s < d.last.length := by
    have := (List.getElem?_eq_some_iff.1 hst).1
    have e : d.told.length = d.last.length := applyW_length _ _
    omega
  have hst2 : (applyW d.last d.wait)[s]? = some t := hst
  rw [applyW_get _ _ _ hj] at hst2
  have e := Option.some.inj hst2
  cases hw : lastW d.wait s with
  | none =>
    rw [hw, Option.getD_none] at e
    exact h.cont s t hs (by rw [← e]; exact List.getElem?_eq_getElem hj)
  | some a =>
    rw [hw, Option.getD_some] at e
    subst e
    exact h.wait _ (lastW_mem hw) hs
/-- An act that puts nothing: what lives behind it lived before. -/
theorem live_back {l : List Act} {a : Act} (ha : ∀ n x, a ≠ .put n x) {n : Nm} {x : Slot} (h : (run (l ++ [a])).sl n = some x) : (run l).sl n = some x := by
  rw [run_snoc] at h
  by_cases ho : a.of n
  · cases a with
    | note v t => exact ho.elim
    | mark t => exact ho.elim
    | put m y => exact absurd rfl (ha m y)
    | drop m =>
      obtain rfl : m = n := ho
      have h2 : upd (run l).sl m none m = some x := h
      rw [upd_same] at h2
      cases h2
  · rwa [heed_of ho] at h
/-- A record of an act that puts nothing is added to the log. -/
theorem SInv.other {by_ : Nm → List UInt8} {d : Dsk} {l : List Act} {lasts : Nat} (h : SInv by_ d l lasts) {a : Act} (ha : ∀ n x, a ≠ .put n x) (at_ : Nat) (kind : UInt8) (mark : Int) (bs : List UInt8) (k : Nat) (hk : at_ + k ≤ 128) : SInv by_ (putD d at_ kind mark bs k) (l ++ [a]) lasts := by
  have hput : ∀ n x, Act.put n x ∈ l ++ [a] → Act.put n x ∈ l := fun n x hx => by
    rcases List.mem_append.1 hx with hx | hx
    · exact hx
    · simp at hx; exact absurd hx.symm (ha n x)
  refine ⟨h.off, h.len, by rw [List.length_append]; exact Nat.le_trans h.lle (Nat.le_add_right _ _), fun n x hx => ?_, fun s t hs hst => (h.cont s t hs hst).mono fun b hb => List.mem_append_left _ hb, fun p hp hs => ?_, fun n x hx hr => ?_, fun n x hx => h.range n x (hput n x hx), fun i i' n x n' x' h1 h2 hm => ?_, fun n x n' x' h1 h2 he => h.apart n x n' x' (live_back ha h1) (live_back ha h2) he⟩
  · have hx' := live_back ha hx
    have := (h.range n x (run_put hx')).1
    rw [told_put_far _ _ _ _ _ _ _ (by omega)]
    exact h.told n x hx'
  · have hp : p ∈ d.wait ++ secs d.size at_ kind mark bs k := hp
    rcases List.mem_append.1 hp with hp | hp
    · exact (h.wait p hp hs).mono fun b hb => List.mem_append_left _ hb
    · simp only [secs, List.mem_map, List.mem_range] at hp
      obtain ⟨i, hi, rfl⟩ := hp
      have hs' : 128 ≤ at_ + i := hs
      omega
  · rw [List.take_append_of_le_length h.lle] at hx
    have hr' := live_back ha hr
    obtain ⟨s1, s2⟩ := h.sure n x hx hr'
    refine ⟨s1, fun p hp => ?_⟩
    have hp : p ∈ d.wait ++ secs d.size at_ kind mark bs k := hp
    rcases List.mem_append.1 hp with hp | hp
    · exact s2 p hp
    · simp only [secs, List.mem_map, List.mem_range] at hp
      obtain ⟨i, hi, rfl⟩ := hp
      have := (h.range n x (run_put hr')).1
      show at_ + i ≠ x.at_
      omega
  · have hb : ∀ j m y, (l ++ [a])[j]? = some (Act.put m y) → l[j]? = some (Act.put m y) := fun j m y hj => by
      rcases Nat.lt_or_ge j l.length with h3 | h3
      · rwa [List.getElem?_append_left h3] at hj
      · rw [List.getElem?_append_right h3] at hj
        have := List.mem_of_getElem? hj
        simp at this
        exact absurd this.symm (ha m y)
    exact h.uniq i i' n x n' x' (hb _ _ _ h1) (hb _ _ _ h2) hm
/-- What lives behind a put: the new one, or what lived before. -/
theorem live_put {l : List Act} {n m : Nm} {x y : Slot} (h : (run (l ++ [Act.put n x])).sl m = some y) : (m = n ∧ y = x) ∨ (m ≠ n ∧ (run l).sl m = some y) := by
  rw [run_snoc] at h
  have h2 : upd (run l).sl n (some x) m = some y := h
  by_cases e : m = n
  · subst e
    rw [upd_same] at h2
    exact .inl ⟨rfl, (Option.some.inj h2).symm⟩
  · rw [upd_other _ _ e] at h2
    exact .inr ⟨e, h2⟩
/-- A slice is put, and its record is added to the log. -/
theorem SInv.put {by_ : Nm → List UInt8} {d : Dsk} {l : List Act} {lasts : Nat} (h : SInv by_ d l lasts) (n : Nm) (x : Slot) (hf : ∀ m y, (run l).sl m = some y → y.at_ ≠ x.at_) (hr : 128 ≤ x.at_ ∧ x.at_ < 512 ∧ x.len = (by_ n).length) (hm : ∀ m y, Act.put m y ∈ l → y.mark ≠ x.mark) (hs : d.size = 128)
    (at_ : Nat) (kind : UInt8) (mark : Int) (bs : List UInt8) (k : Nat) (hk : at_ + k ≤ 128) : SInv by_ (putD (putD d x.at_ 83 (x.mark : Int) (by_ n) 1) at_ kind mark bs k) (l ++ [Act.put n x]) lasts := by
  have hlen := h.len
  have hin : ∀ m y, Act.put m y ∈ l ++ [Act.put n x] → Act.put m y ∈ l ∨ (m = n ∧ y = x) := fun m y hx => by
    rcases List.mem_append.1 hx with hx | hx
    · exact .inl hx
    · simp at hx; exact .inr hx
  have hnew : (putD (putD d x.at_ 83 (x.mark : Int) (by_ n) 1) at_ kind mark bs k).told[x.at_]? = some (sliceS by_ n x) := by
    rw [told_put_far _ _ _ _ _ _ _ (by omega)]
    have := told_put d x.at_ 83 (x.mark : Int) (by_ n) 1 0 (by omega) (by omega)
    rw [Nat.add_zero, Nat.zero_mul, List.drop_zero, hs] at this
    exact this
  have hat : ∀ i m y, (l ++ [Act.put n x])[i]? = some (Act.put m y) → l[i]? = some (Act.put m y) ∨ (i = l.length ∧ m = n ∧ y = x) := fun i m y hi => by
    rcases Nat.lt_or_ge i l.length with h3 | h3
    · rw [List.getElem?_append_left h3] at hi; exact .inl hi
    · rw [List.getElem?_append_right h3] at hi
      have h4 := (List.getElem?_eq_some_iff.1 hi).1
      have h5 := List.mem_of_getElem? hi
      simp at h4 h5
      exact .inr ⟨by omega, h5⟩
  have wait3 : ∀ p, p ∈ (putD (putD d x.at_ 83 (x.mark : Int) (by_ n) 1) at_ kind mark bs k).wait → p ∈ d.wait ∨ p = (x.at_, sliceS by_ n x) ∨ p.1 < 128 := fun p hp => by
    have hp : p ∈ (d.wait ++ secs d.size x.at_ 83 (x.mark : Int) (by_ n) 1) ++ secs d.size at_ kind mark bs k := hp
    rcases List.mem_append.1 hp with hp | hp
    · rcases List.mem_append.1 hp with hp | hp
      · exact .inl hp
      · simp only [secs, List.mem_map, List.mem_range] at hp
        obtain ⟨i, hi, rfl⟩ := hp
        obtain rfl : i = 0 := by omega
        refine .inr (.inl ?_)
        rw [Nat.add_zero, Nat.zero_mul, List.drop_zero, hs]
        rfl
    · simp only [secs, List.mem_map, List.mem_range] at hp
      obtain ⟨i, hi, rfl⟩ := hp
      refine .inr (.inr ?_)
      show at_ + i < 128
      omega
  refine ⟨h.off, h.len, by rw [List.length_append]; exact Nat.le_trans h.lle (Nat.le_add_right _ _), fun m y hy => ?_, fun s t hs' hst => (h.cont s t hs' hst).mono fun b hb => List.mem_append_left _ hb, fun p hp hs' => ?_, fun m y hy hl => ?_, fun m y hy => ?_, fun i i' m y m' y' h1 h2 he => ?_, fun m y m' y' h1 h2 he => ?_⟩
  · rcases live_put hy with ⟨rfl, rfl⟩ | ⟨_, h2⟩
    · exact hnew
    · have h3 := (h.range m y (run_put h2)).1
      have h4 := hf m y h2
      rw [told_put_far _ _ _ _ _ _ _ (by omega), told_put_far _ _ _ _ _ _ _ (by omega)]
      exact h.told m y h2
  · rcases wait3 p hp with hp | rfl | hp
    · exact (h.wait p hp hs').mono fun b hb => List.mem_append_left _ hb
    · exact .inr ⟨n, x, by simp, rfl, rfl⟩
    · omega
  · rw [List.take_append_of_le_length h.lle] at hy
    rcases live_put hl with ⟨rfl, rfl⟩ | ⟨_, h2⟩
    · exact absurd rfl (hm m y (List.mem_of_mem_take hy))
    · obtain ⟨s1, s2⟩ := h.sure m y hy h2
      have h3 := (h.range m y (run_put h2)).1
      have h4 := hf m y h2
      refine ⟨s1, fun p hp => ?_⟩
      rcases wait3 p hp with hp | rfl | hp
      · exact s2 p hp
      · exact fun e => h4 e.symm
      · omega
  · rcases hin m y hy with h1 | ⟨rfl, rfl⟩
    · exact h.range m y h1
    · exact hr
  · rcases hat i m y h1 with a1 | ⟨a1, a2, a3⟩
    · rcases hat i' m' y' h2 with b1 | ⟨b1, b2, b3⟩
      · exact h.uniq i i' m y m' y' a1 b1 he
      · subst b3
        exact absurd he (hm m y (List.mem_of_getElem? a1))
    · rcases hat i' m' y' h2 with b1 | ⟨b1, b2, b3⟩
      · subst a3
        exact absurd he.symm (hm m' y' (List.mem_of_getElem? b1))
      · omega
  · rcases live_put h1 with ⟨rfl, rfl⟩ | ⟨_, a2⟩
    · rcases live_put h2 with ⟨rfl, rfl⟩ | ⟨_, b2⟩
      · rfl
      · exact absurd he.symm (hf m' y' b2)
    · rcases live_put h2 with ⟨rfl, rfl⟩ | ⟨_, b2⟩
      · exact absurd he (hf m y a2)
      · exact h.apart m y m' y' a2 b2 he
theorem need_one {n : Nat} (hn : n ≤ 110) : need 128 n = 1 := by
  unfold need
  rw [if_neg (by omega)]
  split
  · rfl
  · omega
/-- A slice that stands is told. -/
theorem get_slice {by_ : Nm → List UInt8} {d : Dsk} {a : Nat} {n : Nm} {x : Slot} (ho : d.off = false) (hs : d.size = 128) (hb : (by_ n).length ≤ 110) (hm : x.mark ≤ 1000000000000) (h : d.told[a]? = some (sliceS by_ n x)) : getR d (a : Int) = (0, 83, (x.mark : Int), by_ n, 1) := by
  have hlt : a < d.last.length := by rw [← told_len]; exact (List.getElem?_eq_some_iff.1 h).1
  refine getR_stands d a 83 (x.mark : Int) (by_ n) 1 (by decide) (by omega) (by omega) ho (by rw [hs]; exact need_one hb) (Nat.le_refl _) (by omega) (fun i hi => ?_)
  obtain rfl : i = 0 := by omega
  refine ⟨false, ?_⟩
  rw [Nat.add_zero, Nat.zero_mul, List.drop_zero, hs]
  exact h
theorem get_torn {d : Dsk} {a : Nat} (ho : d.off = false) (h : d.told[a]? = some tornS) : (getR d (a : Int)).1 ≠ 0 := by
  have hlt : a < d.last.length := by rw [← told_len]; exact (List.getElem?_eq_some_iff.1 h).1
  unfold getR
  rw [if_neg (by unfold Dsk.has; simp; omega), Int.toNat_natCast]
  obtain ⟨f, hf⟩ : ∃ f, d.last.length - a = f + 1 := ⟨_, (Nat.succ_pred_eq_of_pos (by omega)).symm⟩
  rw [hf]
  have hE : d.readE ((a : Int) + ((0 : Nat) : Int)) = 9 := by
    rw [show (a : Int) + ((0 : Nat) : Int) = (a : Int) by omega]
    unfold Dsk.readE
    rw [show d.has (a : Int) = true by unfold Dsk.has; simp; omega, ho, Int.toNat_natCast, h]
    simp [tornS]
  unfold getP
  rw [if_pos (by rw [hE]; decide), hE]
  decide
/-- What is told of a slice's sector: a slice that was put there, or an error that isn't the disk's being off. -/
theorem get_is {by_ : Nm → List UInt8} {d : Dsk} {l : List Act} {a : Nat} {t : Sect} (ho : d.off = false) (hs : d.size = 128) (hb : ∀ n x, Act.put n x ∈ l → (by_ n).length ≤ 110 ∧ x.mark ≤ 1000000000000) (h : d.told[a]? = some t) (hi : Is by_ l a t ∨ t = tornS) :
    (∃ n x, Act.put n x ∈ l ∧ x.at_ = a ∧ getR d (a : Int) = (0, 83, (x.mark : Int), by_ n, 1)) ∨ ((getR d (a : Int)).1 ≠ 0 ∧ (getR d (a : Int)).1 ≠ 10) := by
  rcases hi with (rfl | ⟨n, x, h1, h2, rfl⟩) | rfl
  · refine .inr ⟨?_, getR_no_down d _ ho⟩
    rw [getR_zero d a ho (by rw [hs]; exact h)]
    decide
  · exact .inl ⟨n, x, h1, h2, get_slice ho hs (hb n x h1).1 (hb n x h1).2 h⟩
  · exact .inr ⟨get_torn ho h, getR_no_down d _ ho⟩
/-- One mark, one put. -/
theorem SInv.same {by_ : Nm → List UInt8} {d : Dsk} {l : List Act} {lasts : Nat} (h : SInv by_ d l lasts) {n m : Nm} {x y : Slot} (hx : Act.put n x ∈ l) (hy : Act.put m y ∈ l) (e : x.mark = y.mark) : n = m ∧ x = y := by
  obtain ⟨i, hi⟩ := List.getElem?_of_mem hx
  obtain ⟨j, hj⟩ := List.getElem?_of_mem hy
  obtain rfl := h.uniq i j n x m y hi hj e
  have := Option.some.inj (hi.symm.trans hj)
  injection this with e1 e2
  exact ⟨e1, e2⟩
/-- Is a slot's slice told as it was put? -/
def okB (d : Dsk) (x : Slot) : Prop := (getR d (x.at_ : Int)).1 = 0 ∧ (getR d (x.at_ : Int)).2.1 = 83 ∧ (getR d (x.at_ : Int)).2.2.1 = (x.mark : Int) ∧ (getR d (x.at_ : Int)).2.2.2.1.length = x.len
/-- Behind a cut: what is told as the slot says is the slice's own bytes. -/
theorem SInv.ok_bytes {by_ : Nm → List UInt8} {d : Dsk} {l : List Act} {lasts : Nat} (h : SInv by_ d l lasts) (_hs : d.size = 128) (hb : ∀ n x, Act.put n x ∈ l → (by_ n).length ≤ 110 ∧ x.mark ≤ 1000000000000) (keep : List Bool) (torn : Int) (hz : ((d.cut keep torn).on).size = 128) (ho : ((d.cut keep torn).on).off = false)
    {n : Nm} {x : Slot} (hx : Act.put n x ∈ l) (hok : okB (d.cut keep torn).on x) : getR (d.cut keep torn).on (x.at_ : Int) = (0, 83, (x.mark : Int), by_ n, 1) := by
  obtain ⟨r1, r2, _⟩ := h.range n x hx
  have hj : x.at_ < d.last.length := by have := h.len; omega
  rcases get_is ho hz hb (cut_told h.off keep torn hj) ((h.cut keep torn).1 x.at_ _ r1 (cut_told h.off keep torn hj)) with ⟨m, y, p1, p2, p3⟩ | ⟨p1, _⟩
  · obtain ⟨_, _, o3, _⟩ := hok
    rw [p3] at o3
    have e : y.mark = x.mark := by
      have : (y.mark : Int) = (x.mark : Int) := o3
      omega
    obtain ⟨rfl, rfl⟩ := h.same p1 hx e
    exact p3
  · exact absurd hok.1 p1
/-- Two slots that are told lie apart. -/
theorem SInv.no_clash {by_ : Nm → List UInt8} {d : Dsk} {l : List Act} {lasts : Nat} (h : SInv by_ d l lasts) (hs : d.size = 128) (hb : ∀ n x, Act.put n x ∈ l → (by_ n).length ≤ 110 ∧ x.mark ≤ 1000000000000) (keep : List Bool) (torn : Int) (hz : ((d.cut keep torn).on).size = 128) (ho : ((d.cut keep torn).on).off = false)
    {n m : Nm} {x y : Slot} (hx : Act.put n x ∈ l) (hy : Act.put m y ∈ l) (h1 : okB (d.cut keep torn).on x) (h2 : okB (d.cut keep torn).on y) (e : x.at_ = y.at_) : n = m ∧ x = y := by
  have a1 := h.ok_bytes hs hb keep torn hz ho hx h1
  have a2 := h.ok_bytes hs hb keep torn hz ho hy h2
  rw [e, a2] at a1
  have b1 := (Prod.mk.inj (Prod.mk.inj (Prod.mk.inj a1).2).2).1
  exact h.same hx hy (by omega)
/-- What lasted and lives is told. -/
theorem SInv.lasting {by_ : Nm → List UInt8} {d : Dsk} {l : List Act} {lasts : Nat} (h : SInv by_ d l lasts) (hb : ∀ n x, Act.put n x ∈ l → (by_ n).length ≤ 110 ∧ x.mark ≤ 1000000000000) (keep : List Bool) (torn : Int) (hz : ((d.cut keep torn).on).size = 128) (ho : ((d.cut keep torn).on).off = false)
    {n : Nm} {x : Slot} (hx : Act.put n x ∈ l.take lasts) (hr : (run l).sl n = some x) : okB (d.cut keep torn).on x ∧ getR (d.cut keep torn).on (x.at_ : Int) = (0, 83, (x.mark : Int), by_ n, 1) := by
  have hm := List.mem_of_mem_take hx
  have g := get_slice ho hz (hb n x hm).1 (hb n x hm).2 ((h.cut keep torn).2 n x hx hr)
  refine ⟨?_, g⟩
  unfold okB
  rw [g]
  exact ⟨rfl, rfl, rfl, (h.range n x hm).2.2.symm⟩
/-- A log's turn leaves what lies behind its half. -/
theorem turn_far {d : Dsk} {b o half e : Nat} {rs : List Rec} (hb : Base d b o half e rs) {i : Nat} (hi : b + half ≤ i) : (turnD d b half e rs).told[i]? = d.told[i]? := by
  have hh := hb.h2
  have ht : (turnD d b half e rs).told[i]? = (putD (fillD d b half e rs).flush b 72 (e : Int) [] 1).told[i]? := rfl
  rw [ht, told_put_far _ _ _ _ _ _ _ (by omega)]
  exact (fill_told hb).2 i (.inr hi)
end Go.Proofs.YtendnkklbeiegaaGreatDoor.StoreP
