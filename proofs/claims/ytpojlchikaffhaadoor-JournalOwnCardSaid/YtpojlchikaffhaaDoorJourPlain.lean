/-
  A log in two halves of a disk's sectors, in plain words: what stands in a half, what a cut leaves of it, what is found in it anew; no program in sight.
-/
import Derived.Test.YtpojlchikaffhaaDoorPageLawE
namespace Go.Proofs.YtpojlchikaffhaaDoor.JourP
open DiskP PageP

structure Rec where
  kind : UInt8
  body : List UInt8
def Rec.bytes (r : Rec) : List UInt8 := r.kind :: r.body
theorem Rec.bytes_len (r : Rec) : r.bytes.length = 1 + r.body.length := by simp [Rec.bytes]; omega
/-- How many sectors so many bytes need. -/
def nd (size len : Nat) : Nat := (need size len).toNat
theorem need_ge {size len : Nat} (h1 : 19 ≤ size) (h2 : size ≤ 4096) (h3 : len ≤ 1073741824) : 1 ≤ need size len := by
  unfold need
  rw [if_neg (by omega)]
  split <;> omega
theorem nd_eq {size len : Nat} (h1 : 19 ≤ size) (h2 : size ≤ 4096) (h3 : len ≤ 1073741824) : need size len = (nd size len : Int) ∧ 1 ≤ nd size len := by
  have := need_ge h1 h2 h3
  unfold nd
  omega
theorem need_zero {size : Nat} (h1 : 19 ≤ size) (h2 : size ≤ 4096) : need size 0 = 1 := by
  unfold need
  rw [if_neg (by omega)]
  have : ((0 : Int) + ((size : Int) - 18) - 1) / ((size : Int) - 18) = 0 := Int.ediv_eq_zero_of_lt (by omega) (by omega)
  rw [this, if_pos (by decide)]
theorem nd_zero {size : Nat} (h1 : 19 ≤ size) (h2 : size ≤ 4096) : nd size 0 = 1 := by
  unfold nd
  have := need_zero h1 h2
  rw [show ((0 : Nat) : Int) = 0 from rfl, this]; rfl
def Rec.nd (size : Nat) (r : Rec) : Nat := JourP.nd size r.bytes.length
def sumNd (size : Nat) (rs : List Rec) : Nat := (rs.map (Rec.nd size)).sum
theorem sumNd_append (size : Nat) (a b : List Rec) : sumNd size (a ++ b) = sumNd size a + sumNd size b := by simp [sumNd]
theorem sumNd_one (size : Nat) (r : Rec) : sumNd size [r] = r.nd size := by simp [sumNd]
/-- Where the k-th record begins, in its half. -/
def pos (size : Nat) (rs : List Rec) (k : Nat) : Nat := 1 + sumNd size (rs.take k)
theorem pos_succ {size : Nat} {rs : List Rec} {k : Nat} {r : Rec} (h : rs[k]? = some r) : pos size rs (k + 1) = pos size rs k + r.nd size := by
  obtain ⟨hk, rfl⟩ := List.getElem?_eq_some_iff.1 h
  unfold pos
  rw [List.take_succ_eq_append_getElem hk, sumNd_append, sumNd_one]
  omega
theorem pos_mono (size : Nat) (rs : List Rec) {i j : Nat} (h : i ≤ j) : pos size rs i ≤ pos size rs j := by
  unfold pos
  rw [show rs.take i = (rs.take j).take i by rw [List.take_take, Nat.min_eq_left h]]
  have := congrArg (sumNd size) (List.take_append_drop i (rs.take j))
  rw [sumNd_append] at this
  omega
theorem pos_take (size : Nat) (rs : List Rec) {i k : Nat} (h : i ≤ k) : pos size (rs.take k) i = pos size rs i := by
  unfold pos
  rw [List.take_take, Nat.min_eq_left h]
theorem pos_snoc (size : Nat) (rs : List Rec) (r : Rec) {i : Nat} (h : i ≤ rs.length) : pos size (rs ++ [r]) i = pos size rs i := by
  unfold pos
  rw [List.take_append_of_le_length h]
theorem pos_all (size : Nat) (rs : List Rec) : pos size rs rs.length = 1 + sumNd size rs := by unfold pos; rw [List.take_length]
def recMark (e i : Nat) : Int := (e : Int) * 1048576 + (i : Int) + 1
def headS (size e : Nat) : Sect := ⟨some (sect size 72 (e : Int) [] true), false⟩
def secS (size e i : Nat) (r : Rec) (j : Nat) : Sect := ⟨some (sect size 82 (recMark e i) (r.bytes.drop (j * (size - 18))) (j == 0)), false⟩
def recS (size e i : Nat) (r : Rec) : List Sect := (List.range (r.nd size)).map (secS size e i r)
theorem recS_len (size e i : Nat) (r : Rec) : (recS size e i r).length = r.nd size := by simp [recS]
def recsS (size e : Nat) : Nat → List Rec → List Sect
  | _, [] => []
  | i, r :: rs => recS size e i r ++ recsS size e (i + 1) rs
theorem recsS_append (size e : Nat) : ∀ (a b : List Rec) (i : Nat), recsS size e i (a ++ b) = recsS size e i a ++ recsS size e (i + a.length) b
  | [], b, i => by simp [recsS]
  | r :: a, b, i => by
    rw [List.cons_append, recsS, recsS_append size e a b (i + 1), recsS, List.append_assoc]
    simp only [List.length_cons]
    rw [show i + 1 + a.length = i + (a.length + 1) by omega]
theorem recsS_len (size e : Nat) : ∀ (a : List Rec) (i : Nat), (recsS size e i a).length = sumNd size a
  | [], i => rfl
  | r :: a, i => by rw [recsS, List.length_append, recS_len, recsS_len size e a (i + 1)]; simp [sumNd]
def halfS (size e : Nat) (rs : List Rec) : List Sect := headS size e :: recsS size e 0 rs
theorem halfS_len (size e : Nat) (rs : List Rec) : (halfS size e rs).length = 1 + sumNd size rs := by simp [halfS, recsS_len]; omega
/-- What stands in the j-th sector of a half. -/
def cellS (size e : Nat) (rs : List Rec) (j : Nat) : Sect := (halfS size e rs).getD j (zeroS size)
theorem cell_head (size e : Nat) (rs : List Rec) : cellS size e rs 0 = headS size e := rfl
theorem cell_zero (size e : Nat) (rs : List Rec) {j : Nat} (h : 1 + sumNd size rs ≤ j) : cellS size e rs j = zeroS size := by
  unfold cellS
  rw [List.getD_eq_getElem?_getD, List.getElem?_eq_none (by rw [halfS_len]; exact h)]
  rfl
theorem halfS_append (size e : Nat) (a b : List Rec) : halfS size e (a ++ b) = halfS size e a ++ recsS size e a.length b := by
  unfold halfS
  rw [recsS_append, Nat.zero_add]
  rfl
theorem cell_append (size e : Nat) (a b : List Rec) {j : Nat} (h : j < 1 + sumNd size a) : cellS size e (a ++ b) j = cellS size e a j := by
  unfold cellS
  rw [halfS_append, List.getD_eq_getElem?_getD, List.getD_eq_getElem?_getD, List.getElem?_append_left (by rw [halfS_len]; exact h)]
theorem cell_take (size e : Nat) (rs : List Rec) (k : Nat) {j : Nat} (h : j < pos size rs k) : cellS size e (rs.take k) j = cellS size e rs j := by
  have := cell_append size e (rs.take k) (rs.drop k) (j := j) h
  rw [List.take_append_drop] at this
  exact this.symm
theorem cell_rec (size e : Nat) (rs : List Rec) {k : Nat} {r : Rec} (h : rs[k]? = some r) {j : Nat} (hj : j < r.nd size) : cellS size e rs (pos size rs k + j) = secS size e k r j := by
  obtain ⟨hk, rfl⟩ := List.getElem?_eq_some_iff.1 h
  have e1 : rs = rs.take k ++ (rs[k] :: rs.drop (k + 1)) := by rw [← List.drop_eq_getElem_cons hk, List.take_append_drop]
  have e2 : halfS size e rs = halfS size e (rs.take k) ++ (recS size e k rs[k] ++ recsS size e (k + 1) (rs.drop (k + 1))) := by
    conv => lhs; rw [e1]
    rw [halfS_append, List.length_take, Nat.min_eq_left (by omega), recsS]
  unfold cellS
  rw [e2, List.getD_eq_getElem?_getD, List.getElem?_append_right (by rw [halfS_len]; unfold pos; omega), halfS_len,
    show pos size rs k + j - (1 + sumNd size (rs.take k)) = j by unfold pos; omega, List.getElem?_append_left (by rw [recS_len]; exact hj)]
  simp [recS, hj]
/-- What holds of a disk with a log in the half at b; the other half is at o. -/
structure Base (d : Dsk) (b o half e : Nat) (rs : List Rec) : Prop where
  off : d.off = false
  s19 : 19 ≤ d.size
  s40 : d.size ≤ 4096
  h2 : 2 ≤ half
  lb : b + half ≤ d.last.length
  lo : o + half ≤ d.last.length
  apart : b + half ≤ o ∨ o + half ≤ b
  e1 : 1 ≤ e
  e6 : e ≤ 1000000
  cnt : rs.length ≤ 1000000
  small : ∀ r ∈ rs, r.body.length ≤ 4000
  room : 1 + sumNd d.size rs ≤ half
/-- The head of a half is none, or an older one's. -/
def Older (d : Dsk) (o e : Nat) : Prop := d.told[o]? = some (zeroS d.size) ∨ ∃ m, 1 ≤ m ∧ m < e ∧ d.told[o]? = some (headS d.size m)
/-- A log that may be broken behind its first records: what is told of its half. -/
structure Dam (d : Dsk) (b o half e : Nat) (rs : List Rec) (lasts : Nat) : Prop where
  base : Base d b o half e rs
  lle : lasts ≤ rs.length
  sure : ∀ j, j < pos d.size rs lasts → d.told[b + j]? = some (cellS d.size e rs j)
  may : ∀ j, j < half → d.told[b + j]? = some (cellS d.size e rs j) ∨ d.told[b + j]? = some (zeroS d.size) ∨ d.told[b + j]? = some tornS
  old : Older d o e
  wl : d.wait.length ≤ half
/-- A log that stands whole; its first records last. -/
structure Inv (d : Dsk) (b o half e : Nat) (rs : List Rec) (lasts : Nat) : Prop where
  base : Base d b o half e rs
  lle : lasts ≤ rs.length
  told : ∀ j, j < half → d.told[b + j]? = some (cellS d.size e rs j)
  last : ∀ j, j < half → d.last[b + j]? = some (if j < pos d.size rs lasts then cellS d.size e rs j else zeroS d.size)
  wait : ∀ x ∈ d.wait, ∃ j, pos d.size rs lasts ≤ j ∧ j < pos d.size rs rs.length ∧ x = (b + j, cellS d.size e rs j)
  old : Older d o e
  wl : d.wait.length + pos d.size rs lasts ≤ pos d.size rs rs.length
theorem pos_ge (size : Nat) (rs : List Rec) (k : Nat) : 1 ≤ pos size rs k := by unfold pos; omega
theorem pos_le {size : Nat} {rs : List Rec} {k : Nat} (h : k ≤ rs.length) : pos size rs k ≤ 1 + sumNd size rs := by
  rw [← pos_all]; exact pos_mono size rs h
theorem Inv.dam {d : Dsk} {b o half e : Nat} {rs : List Rec} {lasts : Nat} (h : Inv d b o half e rs lasts) : Dam d b o half e rs rs.length where
  base := h.base
  lle := Nat.le_refl _
  sure := fun j hj => h.told j (by have := h.base.room; rw [pos_all] at hj; omega)
  may := fun j hj => .inl (h.told j hj)
  old := h.old
  wl := by have h1 := h.wl; have h2 := h.base.room; rw [pos_all] at h1; omega
theorem told_at (d : Dsk) (j : Nat) (hj : j < d.last.length) : d.told[j]? = some ((lastW d.wait j).getD (d.last[j]'hj)) := applyW_get _ _ _ hj
/-- What a cut leaves. -/
theorem Inv.cut {d : Dsk} {b o half e : Nat} {rs : List Rec} {lasts : Nat} (h : Inv d b o half e rs lasts) (keep : List Bool) (torn : Int) : Dam (d.cut keep torn).on b o half e rs lasts := by
  have e0 : (d.cut keep torn).on = ⟨d.size, applyW d.last (keepW keep torn tornS 0 d.wait), [], false⟩ := by
    unfold Dsk.cut Dsk.on
    simp [h.base.off]
  have hlen : (applyW d.last (keepW keep torn tornS 0 d.wait)).length = d.last.length := applyW_length _ _
  have ht : ∀ j, j < d.last.length → ((d.cut keep torn).on).told[j]? = some ((lastW (keepW keep torn tornS 0 d.wait) j).getD (d.last.getD j tornS)) := by
    intro j hj
    rw [e0]
    show (applyW d.last (keepW keep torn tornS 0 d.wait))[j]? = _
    rw [applyW_get _ _ _ hj, List.getD_eq_getElem?_getD, List.getElem?_eq_getElem hj]
    rfl
  have hs : ((d.cut keep torn).on).size = d.size := by rw [e0]
  have hl : ((d.cut keep torn).on).last.length = d.last.length := by rw [e0]; exact hlen
  have hb := h.base
  have far : ∀ j, j < d.last.length → (∀ i, pos d.size rs lasts ≤ i → i < half → b + i ≠ j) → ((d.cut keep torn).on).told[j]? = d.last[j]? := by
    intro j hj hn
    rw [ht j hj, lastW_none (fun x hx => ?_)]
    · rw [List.getD_eq_getElem?_getD, List.getElem?_eq_getElem hj]; rfl
    · obtain ⟨y, hy, hxy⟩ := keepW_sect hx
      obtain ⟨i, h1, h2, rfl⟩ := h.wait y hy
      rw [← hxy]
      exact hn i h1 (by have := hb.room; rw [pos_all] at h2; omega)
  have ot : d.told[o]? = d.last[o]? := by
    have ho : o < d.last.length := by have := hb.lo; have := hb.h2; omega
    rw [told_at d o ho, lastW_none (fun x hx => ?_)]
    · rw [List.getElem?_eq_getElem ho]; rfl
    · obtain ⟨i, h1, h2, rfl⟩ := h.wait x hx
      have := hb.apart
      have := hb.room
      rw [pos_all] at h2
      show b + i ≠ o
      omega
  refine ⟨⟨by rw [e0], by rw [hs]; exact hb.s19, by rw [hs]; exact hb.s40, hb.h2, by rw [hl]; exact hb.lb, by rw [hl]; exact hb.lo, hb.apart, hb.e1, hb.e6, hb.cnt, hb.small, by rw [hs]; exact hb.room⟩, h.lle, fun j hj => ?_, fun j hj => ?_, ?_, by rw [e0]; exact Nat.zero_le _⟩
  · rw [hs] at hj ⊢
    have hp := pos_le (size := d.size) h.lle
    have hr := hb.room
    have hlb := hb.lb
    rw [far (b + j) (by omega) (fun i h1 h2 => by omega), h.last j (by omega), if_pos hj]
  · rw [hs]
    have hlb := hb.lb
    rw [ht (b + j) (by omega)]
    cases hw : lastW (keepW keep torn tornS 0 d.wait) (b + j) with
    | none =>
      rw [Option.getD_none, List.getD_eq_getElem?_getD, h.last j hj, Option.getD_some]
      split
      · exact .inl rfl
      · exact .inr (.inl rfl)
    | some s =>
      rw [Option.getD_some]
      rcases keepW_mem (lastW_mem hw) with hm | ⟨hm, _⟩
      · obtain ⟨i, h1, h2, hx⟩ := h.wait _ hm
        injection hx with hx1 hx2
        obtain rfl : i = j := by omega
        exact .inl (by rw [hx2])
      · simp only at hm
        exact .inr (.inr (by rw [hm]))
  · have ho : o < d.last.length := by have := hb.lo; have := hb.h2; omega
    have hapart := hb.apart
    have e1 := far o ho (fun i h1 h2 => by omega)
    unfold Older
    rw [e1, ← ot, hs]
    exact h.old
theorem keepW_none {α : Type} (z : α) : ∀ (ws : List (Nat × α)) (i : Nat), keepW [] (-1) z i ws = []
  | [], _ => rfl
  | x :: ws, i => by
    rw [keepW_cons, keepW_none z ws (i + 1)]
    unfold keep1
    rw [if_neg (by omega)]
    rfl
theorem Inv.told_o {d : Dsk} {b o half e : Nat} {rs : List Rec} {lasts : Nat} (h : Inv d b o half e rs lasts) : d.told[o]? = d.last[o]? := by
  have hb := h.base
  have ho : o < d.last.length := by have := hb.lo; have := hb.h2; omega
  rw [told_at d o ho, lastW_none (fun x hx => ?_)]
  · rw [List.getElem?_eq_getElem ho]; rfl
  · obtain ⟨i, h1, h2, rfl⟩ := h.wait x hx
    have := hb.apart
    have := hb.room
    rw [pos_all] at h2
    show b + i ≠ o
    omega
/-- What a cut leaves that keeps nothing. -/
theorem Inv.lost {d : Dsk} {b o half e : Nat} {rs : List Rec} {lasts : Nat} (h : Inv d b o half e rs lasts) : Dam (d.cut [] (-1)).on b o half e (rs.take lasts) lasts := by
  have e0 : (d.cut [] (-1)).on = ⟨d.size, d.last, [], false⟩ := by
    unfold Dsk.cut Dsk.on
    simp [h.base.off, keepW_none, applyW]
  have hb := h.base
  have ht : ∀ j : Nat, ((d.cut [] (-1)).on).told[j]? = d.last[j]? := fun j => by rw [e0]; rfl
  have hs : ((d.cut [] (-1)).on).size = d.size := by rw [e0]
  have hl : ((d.cut [] (-1)).on).last.length = d.last.length := by rw [e0]
  have hT : 1 + sumNd d.size (rs.take lasts) ≤ half := by
    have h1 := pos_le (size := d.size) h.lle
    have := hb.room
    unfold pos at h1
    omega
  have hple := pos_le (size := d.size) h.lle
  have hroom := hb.room
  refine ⟨⟨by rw [e0], by rw [hs]; exact hb.s19, by rw [hs]; exact hb.s40, hb.h2, by rw [hl]; exact hb.lb, by rw [hl]; exact hb.lo, hb.apart, hb.e1, hb.e6, by have := hb.cnt; rw [List.length_take]; omega, fun r hr => hb.small r (List.mem_of_mem_take hr), by rw [hs]; exact hT⟩, by rw [List.length_take]; have := h.lle; omega, fun j hj => ?_, fun j hj => ?_, ?_, by rw [e0]; exact Nat.zero_le _⟩
  · rw [hs] at hj ⊢
    rw [pos_take d.size rs (Nat.le_refl _)] at hj
    rw [ht, h.last j (by omega), if_pos hj, cell_take _ _ _ _ hj]
  · rw [ht, h.last j hj, hs]
    by_cases hp : j < pos d.size rs lasts
    · rw [if_pos hp]; exact .inl (by rw [cell_take _ _ _ _ hp])
    · rw [if_neg hp]; exact .inr (.inl rfl)
  · unfold Older
    rw [ht, ← h.told_o, hs]
    exact h.old
/- ### What is told of a sector -/
theorem rd_zero (size : Nat) (h : 19 ≤ size) : rd (List.replicate size 0) = none := by
  unfold rd rdOK
  rw [if_neg]
  intro hc
  have : decide ((List.replicate size (0 : UInt8)).getD 0 0 ≠ 0) = false := by
    rw [decide_eq_false_iff_not]
    simp [List.getD, show 0 < size by omega]
  rw [this] at hc
  simp at hc
theorem getP_no_down (d : Dsk) (at_ : Int) (ho : d.off = false) : ∀ (fuel i : Nat) (hd : Sec) (out : List UInt8), (getP d at_ fuel i hd out).1 ≠ 10 := by
  intro fuel
  induction fuel with
  | zero => intro i hd out; unfold getP; decide
  | succ fuel ih =>
    intro i hd out
    unfold getP
    split
    · unfold Dsk.readE
      rw [ho]
      split
      · decide
      · rw [if_neg (by decide)]
        split
        · split <;> decide
        · decide
    · split
      · decide
      · split
        · decide
        · split
          · decide
          · simp only
            split
            · split
              · decide
              · split
                · show (0 : Int) ≠ 10; decide
                · exact ih _ _ _
            · split
              · decide
              · split
                · show (0 : Int) ≠ 10; decide
                · exact ih _ _ _
theorem getR_no_down (d : Dsk) (at_ : Int) (ho : d.off = false) : (getR d at_).1 ≠ 10 := by
  unfold getR
  split
  · decide
  · exact getP_no_down d at_ ho _ _ _ _
theorem getR_zero (d : Dsk) (a : Nat) (ho : d.off = false) (h : d.told[a]? = some (zeroS d.size)) : getR d a = (2, 0, 0, [], 0) := by
  obtain ⟨h1, h2⟩ := read_told d a _ _ h ho
  have hlt : a < d.last.length := by rw [← told_len]; exact (List.getElem?_eq_some_iff.1 h).1
  unfold getR
  rw [if_neg (by unfold Dsk.has; simp; omega), Int.toNat_natCast]
  obtain ⟨f, hf⟩ : ∃ f, d.last.length - a = f + 1 := ⟨d.last.length - a - 1, by omega⟩
  rw [hf]
  unfold getP
  rw [show (a : Int) + ((0 : Nat) : Int) = (a : Int) by omega, if_neg (by rw [h1]; simp), if_pos ⟨rfl, by rw [h2]; exact plain_zero _⟩]
theorem getR_head (d : Dsk) (a m : Nat) (ho : d.off = false) (h1 : 19 ≤ d.size) (h2 : d.size ≤ 4096) (hm : m ≤ 1000000) (h : d.told[a]? = some (headS d.size m)) : getR d a = (0, 72, (m : Int), [], 1) := by
  have hlt : a < d.last.length := by rw [← told_len]; exact (List.getElem?_eq_some_iff.1 h).1
  have := getR_stands d a 72 (m : Int) [] 1 (by decide) (by omega) (by omega) ho (need_zero h1 h2) (Nat.le_refl _) (by omega) (fun i hi => by
    obtain rfl : i = 0 := by omega
    exact ⟨false, by simp only [Nat.add_zero, Nat.zero_mul, List.drop_zero]; exact h⟩)
  exact this
/-- A record all of whose sectors stand. -/
theorem getR_rec {d : Dsk} {b o half e : Nat} {rs : List Rec} (hb : Base d b o half e rs) {k : Nat} {r : Rec} (hr : rs[k]? = some r) (hS : ∀ j, j < r.nd d.size → d.told[b + pos d.size rs k + j]? = some (secS d.size e k r j)) :
    getR d ((b + pos d.size rs k : Nat) : Int) = (0, 82, recMark e k, r.bytes, ((r.nd d.size : Nat) : Int)) := by
  have hk := (List.getElem?_eq_some_iff.1 hr).1
  have hsm := hb.small r (List.mem_of_getElem? hr)
  have hbl := r.bytes_len
  obtain ⟨n1, n2⟩ := nd_eq (size := d.size) (len := r.bytes.length) hb.s19 hb.s40 (by omega)
  have hps := pos_succ (size := d.size) hr
  have hple := pos_le (size := d.size) (rs := rs) (k := k + 1) (by omega)
  have hroom := hb.room
  have hlb := hb.lb
  have hcnt := hb.cnt
  have he6 := hb.e6
  refine getR_stands d (b + pos d.size rs k) 82 (recMark e k) r.bytes (r.nd d.size) (by decide) ?_ ?_ hb.off n1 n2 (by omega) (fun i hi => ⟨false, hS i hi⟩)
  · unfold recMark; omega
  · unfold recMark; omega
theorem Dam.next {d : Dsk} {b o half e : Nat} {rs : List Rec} {lasts : Nat} (h : Dam d b o half e rs lasts) {k : Nat} {r : Rec} (hr : rs[k]? = some r) :
    getR d ((b + pos d.size rs k : Nat) : Int) = (0, 82, recMark e k, r.bytes, ((r.nd d.size : Nat) : Int)) ∨
    ((getR d ((b + pos d.size rs k : Nat) : Int)).1 ≠ 0 ∧ lasts ≤ k) := by
  have hb := h.base
  have hk := (List.getElem?_eq_some_iff.1 hr).1
  have hsm := hb.small r (List.mem_of_getElem? hr)
  have hbl := r.bytes_len
  obtain ⟨n1, n2⟩ := nd_eq (size := d.size) (len := r.bytes.length) hb.s19 hb.s40 (by omega)
  have hps := pos_succ (size := d.size) hr
  have hple := pos_le (size := d.size) (rs := rs) (k := k + 1) (by omega)
  have hroom := hb.room
  have hlb := hb.lb
  have hcnt := hb.cnt
  have he6 := hb.e6
  rcases least (fun j => d.told[b + pos d.size rs k + j]? = some (secS d.size e k r j)) (r.nd d.size) with hall | ⟨j, j1, j2, j3⟩
  · exact .inl (getR_rec hb hr hall)
  · refine .inr ⟨?_, ?_⟩
    · obtain ⟨mm, e1, e2, e3, e4⟩ := need_nat d.size r.bytes.length (by omega)
      have hmm : mm = r.nd d.size := by unfold Rec.nd; omega
      have hc := cell_rec d.size e rs hr j1
      have hmay := h.may (pos d.size rs k + j) (by omega)
      rw [hc, ← Nat.add_assoc] at hmay
      have hbad : d.readE (((b + pos d.size rs k : Nat) : Int) + (j : Int)) ≠ 0 ∨ rd (d.readL (((b + pos d.size rs k : Nat) : Int) + (j : Int))) = none ∨ (0 < j ∧ ∃ x, rd (d.readL (((b + pos d.size rs k : Nat) : Int) + (j : Int))) = some x ∧ x.mark ≠ recMark e k) := by
        rw [show ((b + pos d.size rs k : Nat) : Int) + (j : Int) = ((b + pos d.size rs k + j : Nat) : Int) by omega]
        rcases hmay with hm | hm | hm
        · exact absurd hm j2
        · obtain ⟨f1, f2⟩ := read_told d _ _ _ hm hb.off
          exact .inr (.inl (by rw [f2]; exact rd_zero _ hb.s19))
        · refine .inl ?_
          unfold Dsk.readE
          rw [show d.has ((b + pos d.size rs k + j : Nat) : Int) = true by unfold Dsk.has; simp; omega, hb.off, Int.toNat_natCast, hm]
          simp [tornS]
      have := get_broken d (b + pos d.size rs k) 82 (recMark e k) r.bytes mm j hb.s19 (by decide) (by omega) (by unfold recMark; omega) (by unfold recMark; omega) hb.off (fun i hi => ⟨false, j3 i hi⟩) (by omega) (fun i a1 a2 => e3 i a1 a2) hbad j 0 (d.last.length - (b + pos d.size rs k)) ⟨0, 0, 0, false, []⟩ rfl (by omega) (fun h => absurd h (by omega))
      rw [Nat.zero_mul, List.take_zero] at this
      unfold getR
      rw [if_neg (by unfold Dsk.has; simp; omega), Int.toNat_natCast]
      exact this
    · rcases Nat.lt_or_ge k lasts with hlt | hge
      · exfalso
        have hp := pos_mono d.size rs (show k + 1 ≤ lasts by omega)
        have hs := h.sure (pos d.size rs k + j) (by omega)
        rw [cell_rec d.size e rs hr j1, ← Nat.add_assoc] at hs
        exact j2 hs
      · exact hge
theorem Dam.end_ {d : Dsk} {b o half e : Nat} {rs : List Rec} {lasts : Nat} (h : Dam d b o half e rs lasts) (hlt : pos d.size rs rs.length < half) : (getR d ((b + pos d.size rs rs.length : Nat) : Int)).1 ≠ 0 := by
  have hb := h.base
  have hlb := hb.lb
  have hmay := h.may _ hlt
  rw [cell_zero d.size e rs (by rw [pos_all]; omega)] at hmay
  rcases hmay with hm | hm | hm
  · rw [getR_zero d _ hb.off hm]; decide
  · rw [getR_zero d _ hb.off hm]; decide
  · unfold getR
    rw [if_neg (by unfold Dsk.has; simp; omega), Int.toNat_natCast]
    obtain ⟨f, hf⟩ : ∃ f, d.last.length - (b + pos d.size rs rs.length) = f + 1 := ⟨_, (Nat.succ_pred_eq_of_pos (by omega)).symm⟩
    rw [hf]
    have hE : d.readE (((b + pos d.size rs rs.length : Nat) : Int) + ((0 : Nat) : Int)) = 9 := by
      rw [show ((b + pos d.size rs rs.length : Nat) : Int) + ((0 : Nat) : Int) = ((b + pos d.size rs rs.length : Nat) : Int) by omega]
      unfold Dsk.readE
      rw [show d.has ((b + pos d.size rs rs.length : Nat) : Int) = true by unfold Dsk.has; simp; omega, hb.off, Int.toNat_natCast, hm]
      simp [tornS]
    unfold getP
    rw [if_pos (by rw [hE]; decide), hE]
    decide
theorem Dam.head {d : Dsk} {b o half e : Nat} {rs : List Rec} {lasts : Nat} (h : Dam d b o half e rs lasts) : getR d (b : Int) = (0, 72, (e : Int), [], 1) := by
  have hb := h.base
  have := h.sure 0 (pos_ge _ _ _)
  rw [cell_head, Nat.add_zero] at this
  exact getR_head d b e hb.off hb.s19 hb.s40 hb.e6 this
theorem Older.get {d : Dsk} {o e : Nat} (h : Older d o e) (ho : d.off = false) (h1 : 19 ≤ d.size) (h2 : d.size ≤ 4096) (he : e ≤ 1000000) : getR d (o : Int) = (2, 0, 0, [], 0) ∨ ∃ m : Nat, 1 ≤ m ∧ m < e ∧ getR d (o : Int) = (0, 72, (m : Int), [], 1) := by
  rcases h with h | ⟨m, m1, m2, h⟩
  · exact .inl (getR_zero d o ho h)
  · exact .inr ⟨m, m1, m2, getR_head d o m ho h1 h2 (by omega) h⟩
/- ### Add, Sync -/
theorem Inv.sync {d : Dsk} {b o half e : Nat} {rs : List Rec} {lasts : Nat} (h : Inv d b o half e rs lasts) : Inv d.flush b o half e rs rs.length := by
  have ht : d.flush.told = d.told := rfl
  have hl : d.flush.last = d.told := rfl
  have hll : d.flush.last.length = d.last.length := applyW_length _ _
  have hb := h.base
  refine ⟨⟨hb.off, hb.s19, hb.s40, hb.h2, by rw [hll]; exact hb.lb, by rw [hll]; exact hb.lo, hb.apart, hb.e1, hb.e6, hb.cnt, hb.small, hb.room⟩, Nat.le_refl _, h.told, fun j hj => ?_, fun x hx => (by cases hx), h.old, by show 0 + _ ≤ _; omega⟩
  rw [hl, h.told j hj]
  by_cases hp : j < pos d.size rs rs.length
  · exact congrArg some (if_pos hp).symm
  · have : ¬ j < pos d.flush.size rs rs.length := hp
    rw [if_neg this, cell_zero _ _ _ (by rw [pos_all] at hp; omega)]
    rfl
theorem putD_told_at (d : Dsk) (a : Nat) (kind : UInt8) (mark : Int) (b : List UInt8) (k j : Nat) (ha : a + k ≤ d.last.length) (h1 : a ≤ j) (h2 : j < a + k) :
    (putD d a kind mark b k).told[j]? = some ⟨some (sect d.size kind mark (b.drop ((j - a) * (d.size - 18))) (j - a == 0)), false⟩ := by
  have := told_put d a kind mark b k (j - a) (by omega) ha
  rwa [show a + (j - a) = j by omega] at this
theorem Older.put {d : Dsk} {o e a : Nat} {kind : UInt8} {mark : Int} {b : List UInt8} {k : Nat} (h : Older d o e) (ho : o < a ∨ a + k ≤ o) : Older (putD d a kind mark b k) o e := by
  unfold Older
  rw [told_put_far d a kind mark b k o ho]
  exact h
/-- With one record more. -/
theorem Inv.add {d : Dsk} {b o half e : Nat} {rs : List Rec} {lasts : Nat} (h : Inv d b o half e rs lasts) (r : Rec) (hs : r.body.length ≤ 4000) (hn : rs.length < 1000000) (hr : 1 + sumNd d.size rs + r.nd d.size ≤ half) :
    putE d ((b + pos d.size rs rs.length : Nat) : Int) 82 r.bytes.length = 0 ∧ putN d ((b + pos d.size rs rs.length : Nat) : Int) 82 r.bytes.length = (r.nd d.size : Int) ∧
    Inv (putS d ((b + pos d.size rs rs.length : Nat) : Int) 82 (recMark e rs.length) r.bytes) b o half e (rs ++ [r]) lasts := by
  have hb := h.base
  have hbl := r.bytes_len
  obtain ⟨n1, n2⟩ := nd_eq (size := d.size) (len := r.bytes.length) hb.s19 hb.s40 (by omega)
  have n3 : JourP.nd d.size r.bytes.length = r.nd d.size := rfl
  have hpa := pos_all d.size rs
  have hlb := hb.lb
  have hE : putE d ((b + pos d.size rs rs.length : Nat) : Int) 82 r.bytes.length = 0 := by
    unfold putE
    rw [if_neg (by
      rintro (hx | hx)
      · unfold Dsk.has at hx; simp at hx; omega
      · exact absurd hx (by decide)), if_neg (by omega), hb.off]
    rfl
  refine ⟨hE, by unfold putN; rw [if_pos hE, n1, n3], ?_⟩
  have hput : putS d ((b + pos d.size rs rs.length : Nat) : Int) 82 (recMark e rs.length) r.bytes = putD d (b + pos d.size rs rs.length) 82 (recMark e rs.length) r.bytes (r.nd d.size) := by
    unfold putS
    rw [if_pos hE, n1, n3, Int.toNat_natCast, Int.toNat_natCast]
  rw [hput]
  have hps : pos d.size (rs ++ [r]) lasts = pos d.size rs lasts := pos_snoc _ _ _ h.lle
  have hple := pos_le (size := d.size) h.lle
  have hget : (rs ++ [r])[rs.length]? = some r := by simp
  have hposn : pos d.size (rs ++ [r]) rs.length = pos d.size rs rs.length := pos_snoc _ _ _ (Nat.le_refl _)
  refine ⟨⟨hb.off, hb.s19, hb.s40, hb.h2, hb.lb, hb.lo, hb.apart, hb.e1, hb.e6, by simp; omega, fun x hx => ?_, ?_⟩, by simp; have := h.lle; omega, fun j hj => ?_, fun j hj => ?_, fun x hx => ?_, ?_, ?_⟩
  · rcases List.mem_append.1 hx with hx | hx
    · exact hb.small x hx
    · simp at hx; subst hx; exact hs
  · show 1 + sumNd d.size (rs ++ [r]) ≤ half
    rw [sumNd_append, sumNd_one]; omega
  · show (putD d (b + pos d.size rs rs.length) 82 (recMark e rs.length) r.bytes (r.nd d.size)).told[b + j]? = some (cellS d.size e (rs ++ [r]) j)
    by_cases h1 : j < pos d.size rs rs.length
    · rw [told_put_far _ _ _ _ _ _ _ (by omega), h.told j hj, cell_append _ _ _ _ (by omega)]
    · by_cases h2 : j < pos d.size rs rs.length + r.nd d.size
      · rw [putD_told_at _ _ _ _ _ _ _ (by omega) (by omega) (by omega)]
        have := cell_rec d.size e (rs ++ [r]) hget (j := j - pos d.size rs rs.length) (by omega)
        rw [hposn, show pos d.size rs rs.length + (j - pos d.size rs rs.length) = j by omega] at this
        rw [this, show b + j - (b + pos d.size rs rs.length) = j - pos d.size rs rs.length by omega]
        rfl
      · rw [told_put_far _ _ _ _ _ _ _ (by omega), h.told j hj, cell_zero _ _ _ (by omega), cell_zero _ _ _ (by rw [sumNd_append, sumNd_one]; omega)]
  · show d.last[b + j]? = some (if j < pos d.size (rs ++ [r]) lasts then cellS d.size e (rs ++ [r]) j else zeroS d.size)
    rw [hps, h.last j hj]
    by_cases h1 : j < pos d.size rs lasts
    · rw [if_pos h1, if_pos h1, cell_append _ _ _ _ (by omega)]
    · rw [if_neg h1, if_neg h1]
  · have hx : x ∈ d.wait ++ secs d.size (b + pos d.size rs rs.length) 82 (recMark e rs.length) r.bytes (r.nd d.size) := hx
    have hend : pos d.size (rs ++ [r]) (rs ++ [r]).length = pos d.size rs rs.length + r.nd d.size := by rw [pos_all, pos_all, sumNd_append, sumNd_one]; omega
    show ∃ j, pos d.size (rs ++ [r]) lasts ≤ j ∧ j < pos d.size (rs ++ [r]) (rs ++ [r]).length ∧ x = (b + j, cellS d.size e (rs ++ [r]) j)
    rw [hps, hend]
    rcases List.mem_append.1 hx with hx | hx
    · obtain ⟨j, h1, h2, rfl⟩ := h.wait x hx
      exact ⟨j, h1, by omega, by rw [cell_append _ _ _ _ (by omega)]⟩
    · simp only [secs, List.mem_map, List.mem_range] at hx
      obtain ⟨i, hi, rfl⟩ := hx
      refine ⟨pos d.size rs rs.length + i, by have := pos_mono d.size rs h.lle; omega, by omega, ?_⟩
      have := cell_rec d.size e (rs ++ [r]) hget (j := i) hi
      rw [hposn] at this
      rw [this, Nat.add_assoc]
      rfl
  · exact h.old.put (by have := hb.apart; omega)
  · show (d.wait ++ secs d.size (b + pos d.size rs rs.length) 82 (recMark e rs.length) r.bytes (r.nd d.size)).length + pos d.size (rs ++ [r]) lasts ≤ pos d.size (rs ++ [r]) (rs ++ [r]).length
    have := h.wl
    rw [hps, List.length_append, secs_len, pos_all, sumNd_append, sumNd_one]
    omega
/- ### Turn -/
def zerosD (d : Dsk) (a k : Nat) : Dsk := { d with wait := d.wait ++ (List.range k).map fun i => (a + i, zeroS d.size) }
theorem zerosD_zero (d : Dsk) (a : Nat) : zerosD d a 0 = d := by simp [zerosD]
theorem zerosD_succ (d : Dsk) (a k : Nat) : zerosD d a (k + 1) = (zerosD d a k).write (a + k) (List.replicate d.size 0) := by
  simp [zerosD, Dsk.write, List.range_succ, zeroS]
theorem zeros_told (d : Dsk) (a : Nat) : ∀ k, a + k ≤ d.last.length → ∀ i, (zerosD d a k).told[i]? = if a ≤ i ∧ i < a + k then some (zeroS d.size) else d.told[i]? := by
  intro k
  induction k with
  | zero => intro _ i; rw [zerosD_zero, if_neg (by omega)]
  | succ k ih =>
    intro hk i
    rw [zerosD_succ, told_write]
    by_cases h : i = a + k
    · subst h
      rw [List.getElem?_set_self (by rw [told_len]; show a + k < d.last.length; omega), if_pos (by omega)]
      rfl
    · rw [List.getElem?_set_ne (by omega), ih (by omega) i]
      by_cases h2 : a ≤ i ∧ i < a + k
      · rw [if_pos h2, if_pos (by omega)]
      · rw [if_neg h2, if_neg (by omega)]
/-- The disk with the first k records put into the half at b. -/
def putsD (d : Dsk) (b e : Nat) (rs : List Rec) : Nat → Dsk
  | 0 => d
  | k + 1 => match rs[k]? with
    | some r => putD (putsD d b e rs k) (b + pos d.size rs k) 82 (recMark e k) r.bytes (r.nd d.size)
    | none => putsD d b e rs k
theorem putsD_succ {d : Dsk} {b e : Nat} {rs : List Rec} {k : Nat} {r : Rec} (h : rs[k]? = some r) : putsD d b e rs (k + 1) = putD (putsD d b e rs k) (b + pos d.size rs k) 82 (recMark e k) r.bytes (r.nd d.size) := by
  rw [putsD, h]
theorem puts_same (d : Dsk) (b e : Nat) (rs : List Rec) (k : Nat) : (putsD d b e rs k).last = d.last ∧ (putsD d b e rs k).size = d.size ∧ (putsD d b e rs k).off = d.off := by
  induction k with
  | zero => exact ⟨rfl, rfl, rfl⟩
  | succ k ih =>
    rw [putsD]
    split
    · exact ih
    · exact ih
theorem puts_told (d : Dsk) (b e : Nat) (rs : List Rec) (hl : b + (1 + sumNd d.size rs) ≤ d.last.length) : ∀ k, k ≤ rs.length →
    (∀ j, 1 ≤ j → j < pos d.size rs k → (putsD d b e rs k).told[b + j]? = some (cellS d.size e rs j)) ∧ ∀ i, i < b + 1 ∨ b + pos d.size rs k ≤ i → (putsD d b e rs k).told[i]? = d.told[i]? := by
  intro k
  induction k with
  | zero => intro _; exact ⟨fun j h1 h2 => by unfold pos at h2; simp [sumNd] at h2; omega, fun i _ => rfl⟩
  | succ k ih =>
    intro hk
    obtain ⟨h1, h2⟩ := ih (by omega)
    have hr : rs[k]? = some rs[k] := List.getElem?_eq_getElem (by omega)
    obtain ⟨s1, s2, s3⟩ := puts_same d b e rs k
    have hps := pos_succ (size := d.size) hr
    have hple := pos_le (size := d.size) (rs := rs) (k := k + 1) (by omega)
    have hpg := pos_ge d.size rs k
    rw [putsD_succ hr]
    refine ⟨fun j j1 j2 => ?_, fun i hi => ?_⟩
    · by_cases hj : j < pos d.size rs k
      · rw [told_put_far _ _ _ _ _ _ _ (by omega)]
        exact h1 j j1 hj
      · rw [putD_told_at _ _ _ _ _ _ _ (by rw [s1]; omega) (by omega) (by omega), s2]
        have := cell_rec d.size e rs hr (j := j - pos d.size rs k) (by omega)
        rw [show pos d.size rs k + (j - pos d.size rs k) = j by omega] at this
        rw [this, show b + j - (b + pos d.size rs k) = j - pos d.size rs k by omega]
        rfl
    · rw [told_put_far _ _ _ _ _ _ _ (by omega)]
      exact h2 i (by omega)
/-- One record more is put. -/
theorem puts_next {d : Dsk} {b o half e : Nat} {rs : List Rec} (hb : Base d b o half e rs) {k : Nat} {r : Rec} (hr : rs[k]? = some r) :
    putE (putsD d b e rs k) ((b + pos d.size rs k : Nat) : Int) 82 r.bytes.length = 0 ∧ putN (putsD d b e rs k) ((b + pos d.size rs k : Nat) : Int) 82 r.bytes.length = (r.nd d.size : Int) ∧
    putS (putsD d b e rs k) ((b + pos d.size rs k : Nat) : Int) 82 (recMark e k) r.bytes = putsD d b e rs (k + 1) := by
  obtain ⟨s1, s2, s3⟩ := puts_same d b e rs k
  have hk := (List.getElem?_eq_some_iff.1 hr).1
  have hsm := hb.small r (List.mem_of_getElem? hr)
  have hbl := r.bytes_len
  obtain ⟨n1, n2⟩ := nd_eq (size := d.size) (len := r.bytes.length) hb.s19 hb.s40 (by omega)
  have n3 : JourP.nd d.size r.bytes.length = r.nd d.size := rfl
  have hps := pos_succ (size := d.size) hr
  have hple := pos_le (size := d.size) (rs := rs) (k := k + 1) (by omega)
  have hroom := hb.room
  have hlb := hb.lb
  have hE : putE (putsD d b e rs k) ((b + pos d.size rs k : Nat) : Int) 82 r.bytes.length = 0 := by
    unfold putE
    rw [s1, s2, s3, if_neg (by
      rintro (hx | hx)
      · unfold Dsk.has at hx; rw [s1] at hx; simp at hx; omega
      · exact absurd hx (by decide)), if_neg (by omega), hb.off]
    rfl
  refine ⟨hE, by unfold putN; rw [if_pos hE, s2, n1, n3], ?_⟩
  unfold putS
  rw [if_pos hE, s2, n1, n3, Int.toNat_natCast, Int.toNat_natCast, putsD_succ hr]
theorem puts_wl (d : Dsk) (b e : Nat) (rs : List Rec) : ∀ k, k ≤ rs.length → (putsD d b e rs k).wait.length + 1 = d.wait.length + pos d.size rs k := by
  intro k
  induction k with
  | zero => intro _; unfold pos; simp [putsD, sumNd]
  | succ k ih =>
    intro hk
    have hr : rs[k]? = some rs[k] := List.getElem?_eq_getElem (by omega)
    rw [putsD_succ hr, pos_succ hr]
    show ((putsD d b e rs k).wait ++ secs _ _ _ _ _ _).length + 1 = _
    rw [List.length_append, secs_len]
    have := ih (by omega)
    omega
/-- What turning makes of the disk. -/
def fillD (d : Dsk) (b half e : Nat) (rs : List Rec) : Dsk := zerosD (putsD d b e rs rs.length) (b + pos d.size rs rs.length) (half - pos d.size rs rs.length)
def turnD (d : Dsk) (b half e : Nat) (rs : List Rec) : Dsk := (putD (fillD d b half e rs).flush b 72 (e : Int) [] 1).flush
theorem fill_same (d : Dsk) (b half e : Nat) (rs : List Rec) : (fillD d b half e rs).last = d.last ∧ (fillD d b half e rs).size = d.size ∧ (fillD d b half e rs).off = d.off := puts_same d b e rs rs.length
theorem fill_told {d : Dsk} {b o half e : Nat} {rs : List Rec} (hb : Base d b o half e rs) : (∀ j, 1 ≤ j → j < half → (fillD d b half e rs).told[b + j]? = some (cellS d.size e rs j)) ∧ ∀ i, i < b + 1 ∨ b + half ≤ i → (fillD d b half e rs).told[i]? = d.told[i]? := by
  obtain ⟨s1, s2, s3⟩ := puts_same d b e rs rs.length
  have hroom := hb.room
  have hlb := hb.lb
  have hpa := pos_all d.size rs
  obtain ⟨h1, h2⟩ := puts_told d b e rs (by omega) rs.length (Nat.le_refl _)
  have hz := zeros_told (putsD d b e rs rs.length) (b + pos d.size rs rs.length) (half - pos d.size rs rs.length) (by rw [s1]; omega)
  unfold fillD
  refine ⟨fun j j1 j2 => ?_, fun i hi => ?_⟩
  · rw [hz]
    by_cases hj : j < pos d.size rs rs.length
    · rw [if_neg (by omega)]; exact h1 j j1 hj
    · rw [if_pos (by omega), s2, cell_zero _ _ _ (by omega)]
  · rw [hz, if_neg (by omega)]
    exact h2 i (by omega)
/-- The head is put. -/
theorem head_put {d : Dsk} {b o half e : Nat} {rs : List Rec} (hb : Base d b o half e rs) : putE (fillD d b half e rs).flush (b : Int) 72 0 = 0 ∧ putS (fillD d b half e rs).flush (b : Int) 72 (e : Int) [] = putD (fillD d b half e rs).flush b 72 (e : Int) [] 1 := by
  obtain ⟨s1, s2, s3⟩ := fill_same d b half e rs
  have hll : (fillD d b half e rs).flush.last.length = d.last.length := (applyW_length _ _).trans (congrArg List.length s1)
  have hs : (fillD d b half e rs).flush.size = d.size := s2
  have ho : (fillD d b half e rs).flush.off = d.off := s3
  have hlb := hb.lb
  have hh := hb.h2
  have hn := need_zero hb.s19 hb.s40
  have hE : putE (fillD d b half e rs).flush (b : Int) 72 0 = 0 := by
    unfold putE
    rw [hll, hs, ho, if_neg (by
      rintro (hx | hx)
      · unfold Dsk.has at hx; rw [hll] at hx; simp at hx; omega
      · exact absurd hx (by decide)), if_neg (by rw [show ((0 : Nat) : Int) = 0 from rfl, hn]; omega), hb.off]
    rfl
  refine ⟨hE, ?_⟩
  unfold putS
  rw [if_pos (by exact hE), hs, Int.toNat_natCast, show need (d.size : Int) (([] : List UInt8).length : Int) = 1 from hn]
  rfl
theorem turn_inv {d : Dsk} {b o half e : Nat} {rs : List Rec} (hb : Base d b o half e rs) (ho : Older d o e) : Inv (turnD d b half e rs) b o half e rs rs.length ∧ (turnD d b half e rs).wait = [] := by
  obtain ⟨s1, s2, s3⟩ := fill_same d b half e rs
  obtain ⟨h1, h2⟩ := fill_told hb
  have hll : (fillD d b half e rs).flush.last.length = d.last.length := (applyW_length _ _).trans (congrArg List.length s1)
  have hlb := hb.lb
  have hlo := hb.lo
  have hap := hb.apart
  have hh := hb.h2
  have ht : ∀ i : Nat, (turnD d b half e rs).told[i]? = (putD (fillD d b half e rs).flush b 72 (e : Int) [] 1).told[i]? := fun i => rfl
  have ht0 : (turnD d b half e rs).told[b]? = some (headS d.size e) := by
    rw [ht, putD_told_at _ _ _ _ _ _ _ (by rw [hll]; omega) (Nat.le_refl _) (by omega)]
    show some (⟨some (sect (fillD d b half e rs).size 72 (e : Int) (([] : List UInt8).drop ((b - b) * _)) (b - b == 0)), false⟩ : Sect) = _
    rw [s2, Nat.sub_self, Nat.zero_mul, List.drop_zero]
    rfl
  have htf : ∀ i : Nat, i ≠ b → (turnD d b half e rs).told[i]? = (fillD d b half e rs).told[i]? := fun i hi => by
    rw [ht, told_put_far _ _ _ _ _ _ _ (by omega)]
    rfl
  have hs : (turnD d b half e rs).size = d.size := s2
  have hl : (turnD d b half e rs).last = (turnD d b half e rs).told := rfl
  have hlen : (turnD d b half e rs).last.length = d.last.length := (applyW_length _ _).trans hll
  have hpa := pos_all d.size rs
  have hroom := hb.room
  have htold : ∀ j, j < half → (turnD d b half e rs).told[b + j]? = some (cellS d.size e rs j) := fun j hj => by
    by_cases h0 : j = 0
    · subst h0; rw [Nat.add_zero, ht0, cell_head]
    · rw [htf _ (by omega), h1 j (by omega) hj]
  refine ⟨⟨⟨s3.trans hb.off, by rw [hs]; exact hb.s19, by rw [hs]; exact hb.s40, hb.h2, by rw [hlen]; exact hb.lb, by rw [hlen]; exact hb.lo, hb.apart, hb.e1, hb.e6, hb.cnt, hb.small, by rw [hs]; exact hb.room⟩, Nat.le_refl _, fun j hj => by rw [hs]; exact htold j hj, fun j hj => ?_, fun x hx => (by cases hx), ?_, by show 0 + _ ≤ _; omega⟩, rfl⟩
  · rw [hl, htold j hj, hs]
    by_cases hp : j < pos d.size rs rs.length
    · rw [if_pos hp]
    · rw [if_neg hp, cell_zero _ _ _ (by omega)]
  · unfold Older
    rw [htf o (by omega), h2 o (by omega), hs]
    exact ho
theorem Base.take {d : Dsk} {b o half e : Nat} {rs : List Rec} (hb : Base d b o half e rs) (k : Nat) : Base d b o half e (rs.take k) where
  off := hb.off
  s19 := hb.s19
  s40 := hb.s40
  h2 := hb.h2
  lb := hb.lb
  lo := hb.lo
  apart := hb.apart
  e1 := hb.e1
  e6 := hb.e6
  cnt := by have := hb.cnt; rw [List.length_take]; omega
  small := fun r hr => hb.small r (List.mem_of_mem_take hr)
  room := by
    have h := hb.room
    have := congrArg (sumNd d.size) (List.take_append_drop k rs)
    rw [sumNd_append] at this
    omega
/-- The other half, for the next epoch. -/
theorem Base.over {d : Dsk} {b o half e : Nat} {rs ks : List Rec} (hb : Base d b o half e rs) (he : e < 1000000) (h1 : ks.length ≤ 1000000) (h2 : ∀ r ∈ ks, r.body.length ≤ 4000) (h3 : 1 + sumNd d.size ks ≤ half) : Base d o b half (e + 1) ks :=
  ⟨hb.off, hb.s19, hb.s40, hb.h2, hb.lo, hb.lb, by have := hb.apart; omega, by omega, by omega, h1, h2, h3⟩
theorem Dam.older {d : Dsk} {b o half e : Nat} {rs : List Rec} {lasts : Nat} (h : Dam d b o half e rs lasts) : Older d b (e + 1) := by
  have := h.sure 0 (pos_ge _ _ _)
  rw [cell_head, Nat.add_zero] at this
  exact .inr ⟨e, h.base.e1, by omega, this⟩
/-- A log that is turned to what was found of it. -/
theorem Dam.turn {d : Dsk} {b o half e : Nat} {rs : List Rec} {lasts : Nat} (h : Dam d b o half e rs lasts) (he : e < 1000000) (k : Nat) : Base d o b half (e + 1) (rs.take k) ∧ Inv (turnD d o half (e + 1) (rs.take k)) o b half (e + 1) (rs.take k) (rs.take k).length ∧ (turnD d o half (e + 1) (rs.take k)).wait = [] := by
  have hb := h.base.take k
  have hB := h.base.over he hb.cnt hb.small hb.room
  exact ⟨hB, turn_inv hB h.older⟩
/-- A log that is turned to others. -/
theorem Inv.turn {d : Dsk} {b o half e : Nat} {rs ks : List Rec} {lasts : Nat} (h : Inv d b o half e rs lasts) (he : e < 1000000) (h1 : ks.length ≤ 1000000) (h2 : ∀ r ∈ ks, r.body.length ≤ 4000) (h3 : 1 + sumNd d.size ks ≤ half) :
    Base d o b half (e + 1) ks ∧ Inv (turnD d o half (e + 1) ks) o b half (e + 1) ks ks.length ∧ (turnD d o half (e + 1) ks).wait = [] := by
  have hB := h.base.over he h1 h2 h3
  exact ⟨hB, turn_inv hB h.dam.older⟩
end Go.Proofs.YtpojlchikaffhaaDoor.JourP
