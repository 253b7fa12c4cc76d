/-
  A store while things are put into it, in plain words: its log's records, its slices' sectors, which sectors are free.
-/
import Derived.Test.YtendnkklbeiegaaGreatDoorMAJ
import Derived.Test.YtendnkklbeiegaaGreatDoorMAK
import Derived.Test.YtendnkklbeiegaaGreatDoorSpanDigits
namespace Go.Proofs.YtendnkklbeiegaaGreatDoor.StoreP
open DiskP PageP JourP

/-- Numbers, with a blank between each two. -/
def restT (l : List Int) : List UInt8 := (l.map fun x => 32 :: Lib.itoa x).flatten
def numsT : List Int → List UInt8
  | [] => []
  | a :: l => Lib.itoa a ++ restT l
theorem nums_snoc (a : Int) (l : List Int) (x : Int) : numsT (a :: (l ++ [x])) = numsT (a :: l) ++ 32 :: Lib.itoa x := by simp [numsT, restT]
theorem dec_13 : ∀ (n : Nat), n ≤ 1099511627776 → (Lib.decDigits n).length ≤ 13 := by
  have h : ∀ (k n : Nat), n < 10 ^ (k + 1) → (Lib.decDigits n).length ≤ k + 1 := by
    intro k
    induction k with
    | zero =>
      intro n hn
      rw [Lib.decDigits]
      split <;> simp_all <;> omega
    | succ k ih =>
      intro n hn
      rw [Lib.decDigits]
      split
      · simp
      · have := ih (n / 10) (by rw [Nat.pow_succ] at hn; omega)
        simp; omega
  intro n hn
  exact h 12 n (Nat.lt_of_le_of_lt hn (by decide))
theorem itoa_13 (n : Int) (h0 : 0 ≤ n) (h1 : n ≤ 1099511627776) : (Lib.itoa n).length ≤ 13 := by
  obtain ⟨m, rfl⟩ := Int.eq_ofNat_of_zero_le h0
  have e : Lib.itoa (m : Int) = Lib.decDigits m := by
    unfold Lib.itoa
    simp
  show (Lib.itoa (m : Int)).length ≤ 13
  rw [e]
  exact dec_13 m (by omega)
theorem rest_len : ∀ (l : List Int), (∀ n ∈ l, 0 ≤ n ∧ n ≤ 1099511627776) → (restT l).length ≤ 14 * l.length
  | [], _ => by simp [restT]
  | a :: l, h => by
    have h1 := rest_len l fun n hn => h n (by simp [hn])
    have h2 := itoa_13 a (h a (by simp)).1 (h a (by simp)).2
    have e : restT (a :: l) = 32 :: Lib.itoa a ++ restT l := by simp [restT]
    rw [e]
    simp
    omega
theorem nums_len (l : List Int) (h : ∀ n ∈ l, 0 ≤ n ∧ n ≤ 1099511627776) : (numsT l).length ≤ 14 * l.length := by
  cases l with
  | nil => simp [numsT]
  | cons a l =>
    have h1 := rest_len l fun n hn => h n (by simp [hn])
    have h2 := itoa_13 a (h a (by simp)).1 (h a (by simp)).2
    simp [numsT]
    omega
def Slot.nums (x : Slot) (n : Nm) : List Int := [(n.1 : Int), (n.2 : Int), (x.at_ : Int), (x.len : Int), (x.mark : Int)]
/-- The record of an act. -/
def Act.toRec : Act → Rec
  | .note v t => ⟨78, numsT [(v : Int)] ++ 32 :: t⟩
  | .put n x => ⟨83, numsT (x.nums n)⟩
  | .mark t => ⟨77, t⟩
  | .drop n => ⟨68, numsT [(n.1 : Int), (n.2 : Int)]⟩
def okN (n : Nm) : Prop := n.1 ≤ 1000 ∧ n.2 ≤ 1000
/-- What an act may say. -/
def Act.ok : Act → Prop
  | .note v t => v ≤ 1000 ∧ t.length ≤ 94
  | .put n x => okN n ∧ 128 ≤ x.at_ ∧ x.at_ < 512 ∧ 1 ≤ x.len ∧ x.len ≤ 4 ∧ x.mark ≤ 1000000000000
  | .mark t => t.length ≤ 109
  | .drop n => okN n
theorem Act.small {a : Act} (h : a.ok) : a.toRec.body.length ≤ 109 := by
  cases a with
  | note v t =>
    obtain ⟨h1, h2⟩ := h
    have := nums_len [(v : Int)] (by simp; omega)
    simp [Act.toRec] at this ⊢
    omega
  | put n x =>
    obtain ⟨⟨h1, h2⟩, h3, h4, h5, h6, h7⟩ := h
    have := nums_len (x.nums n) (by
      intro m hm
      simp only [Slot.nums, List.mem_cons, List.not_mem_nil, or_false] at hm
      rcases hm with rfl | rfl | rfl | rfl | rfl <;> omega)
    simp [Act.toRec, Slot.nums] at this ⊢
    omega
  | mark t => exact h
  | drop n =>
    obtain ⟨h1, h2⟩ := h
    have := nums_len [(n.1 : Int), (n.2 : Int)] (by simp; omega)
    simp [Act.toRec] at this ⊢
    omega
theorem nd_one {r : Rec} (h : r.body.length ≤ 109) : r.nd 128 = 1 := by
  have := need_one (n := r.bytes.length) (by rw [r.bytes_len]; omega)
  show (need ((128 : Nat) : Int) (r.bytes.length : Int)).toNat = 1
  rw [show (((128 : Nat) : Int)) = 128 from rfl, this]
  rfl
theorem sum_small : ∀ (rs : List Rec), (∀ r ∈ rs, r.body.length ≤ 109) → sumNd 128 rs = rs.length
  | [], _ => rfl
  | r :: rs, h => by
    have h1 := sum_small rs fun x hx => h x (by simp [hx])
    have h2 := nd_one (h r (by simp))
    have e : sumNd 128 (r :: rs) = r.nd 128 + sumNd 128 rs := by simp [sumNd]
    rw [e, h1, h2, List.length_cons]
    omega
/-- The log of a store that things are put into. -/
def logP (l : List Act) (lasts : Nat) : PJ := ⟨0, 64, 1, 2, l.map Act.toRec, lasts⟩
theorem acts_small {l : List Act} (h : ∀ a ∈ l, a.ok) : ∀ r ∈ l.map Act.toRec, r.body.length ≤ 109 := by
  intro r hr
  obtain ⟨a, ha, rfl⟩ := List.mem_map.1 hr
  exact Act.small (h a ha)
/-- What Add makes of the disk where there is room. -/
theorem add_disk {S : Dsk} {l : List Act} {lasts : Nat} (hi : Inv S 64 0 64 2 (l.map Act.toRec) lasts) (hs : S.size = 128) (hok : ∀ a ∈ l, a.ok) (hl : l.length ≤ 60) {a : Act} (ha : a.ok) :
    addE 128 (logP l lasts) a.toRec = 0 ∧ (logP l lasts).addS 128 a.toRec = logP (l ++ [a]) lasts ∧ ∃ at_ mark, at_ + 1 ≤ 128 ∧ addDS 128 (logP l lasts) S a.toRec = putD S at_ 82 mark a.toRec.bytes 1 := by
  have h1 := sum_small _ (acts_small hok)
  have h2 := nd_one (Act.small ha)
  have h3 := Act.small ha
  have hE : addE 128 (logP l lasts) a.toRec = 0 := by
    unfold addE logP
    rw [if_neg (by omega), h1, h2, List.length_map, if_neg (by simp only; omega)]
  have hp : pos S.size (l.map Act.toRec) (l.map Act.toRec).length = 1 + l.length := by rw [pos_all, hs, h1, List.length_map]
  refine ⟨hE, ?_, 64 + (1 + l.length), recMark 2 l.length, by omega, ?_⟩
  · unfold PJ.addS
    rw [if_pos hE]
    unfold PJ.add logP
    simp
  · obtain ⟨e1, _, _⟩ := hi.add a.toRec (by omega) (by rw [List.length_map]; omega) (by rw [hs, h1, h2, List.length_map]; omega)
    unfold addDS
    rw [if_pos hE]
    show putS S ((64 + pos S.size (l.map Act.toRec) (l.map Act.toRec).length : Nat) : Int) 82 (recMark 2 (l.map Act.toRec).length) a.toRec.bytes = _
    unfold putS
    have h4 : need ((128 : Nat) : Int) (a.toRec.bytes.length : Int) = 1 := need_one (by rw [a.toRec.bytes_len]; omega)
    rw [if_pos e1, hp, hs, List.length_map, h4]
    rfl
/-- What is told of a store while things are put into it. -/
structure KInv (by_ : Nm → List UInt8) (S : Dsk) (l : List Act) (lasts puts : Nat) (fr : Nat → Prop) : Prop where
  s : SInv by_ S l lasts
  size : S.size = 128
  marks : ∀ n x, Act.put n x ∈ l → x.mark ≤ 2097152 + puts
  free : ∀ i, fr i ↔ 128 ≤ i ∧ i < 512 ∧ ∀ n x, (run l).sl n = some x → x.at_ ≠ i
  ok : ∀ a ∈ l, a.ok
  once : ∀ n x, Act.put n x ∈ l → Act.drop n ∉ l → (run l).sl n = some x
  few : S.wait.length ≤ 3 * l.length
section
variable {by_ : Nm → List UInt8} {S : Dsk} {l : List Act} {lasts puts : Nat} {fr : Nat → Prop}
theorem KInv.sync (h : KInv by_ S l lasts puts fr) : KInv by_ S.flush l l.length puts fr := ⟨h.s.sync, h.size, h.marks, h.free, h.ok, h.once, by show 0 ≤ _; omega⟩
theorem putD_wait (d : Dsk) (at_ : Nat) (kind : UInt8) (mark : Int) (b : List UInt8) : (putD d at_ kind mark b 1).wait.length = d.wait.length + 1 := by simp [putD, secs]
/-- A note, or a mark. -/
theorem KInv.tell (h : KInv by_ S l lasts puts fr) {a : Act} (ha : a.ok) (hp : ∀ n x, a ≠ .put n x) (hd : ∀ n, a ≠ .drop n) {at_ : Nat} (hat : at_ + 1 ≤ 128) (mark : Int) (bs : List UInt8) : KInv by_ (putD S at_ 82 mark bs 1) (l ++ [a]) lasts puts fr := by
  have hrun : ∀ n, (run (l ++ [a])).sl n = (run l).sl n := fun n => by
    rw [run_snoc]
    exact heed_of (by
      cases a with
      | note v t => exact id
      | mark t => exact id
      | put m y => exact absurd rfl (hp m y)
      | drop m => exact absurd rfl (hd m))
  have hin : ∀ n x, Act.put n x ∈ l ++ [a] → Act.put n x ∈ l := fun n x hx => by
    rcases List.mem_append.1 hx with hx | hx
    · exact hx
    · simp at hx; exact absurd hx.symm (hp n x)
  refine ⟨h.s.other hp at_ 82 mark bs 1 hat, h.size, fun n x hx => h.marks n x (hin n x hx), fun i => ?_, fun b hb => ?_, fun n x hx hnd => ?_, ?_⟩
  · rw [h.free]; simp only [hrun]
  · rcases List.mem_append.1 hb with hb | hb
    · exact h.ok b hb
    · simp at hb; subst hb; exact ha
  · rw [hrun]
    exact h.once n x (hin n x hx) fun hm => hnd (List.mem_append_left _ hm)
  · have := h.few
    rw [putD_wait, List.length_append]
    simp
    omega
/-- A slice that is there is dropped. -/
theorem KInv.drop (h : KInv by_ S l lasts puts fr) {n : Nm} {x : Slot} (hx : (run l).sl n = some x) {at_ : Nat} (hat : at_ + 1 ≤ 128) (mark : Int) (bs : List UInt8) : KInv by_ (putD S at_ 82 mark bs 1) (l ++ [.drop n]) lasts puts (fun i => fr i ∨ i = x.at_) := by
  have hn : okN n := (h.ok _ (run_put hx)).1
  have hrun : ∀ m, (run (l ++ [Act.drop n])).sl m = if m = n then none else (run l).sl m := fun m => by rw [run_snoc]; rfl
  have hin : ∀ m y, Act.put m y ∈ l ++ [Act.drop n] → Act.put m y ∈ l := fun m y hy => by
    rcases List.mem_append.1 hy with hy | hy
    · exact hy
    · simp at hy
  refine ⟨h.s.other (fun _ _ => Act.noConfusion) at_ 82 mark bs 1 hat, h.size, fun m y hy => h.marks m y (hin m y hy), fun i => ?_, fun b hb => ?_, fun m y hy hnd => ?_, ?_⟩
  · rw [h.free]
    have r1 := h.s.range n x (run_put hx)
    constructor
    · rintro (⟨a1, a2, a3⟩ | rfl)
      · refine ⟨a1, a2, fun m y hy => ?_⟩
        rw [hrun] at hy
        split at hy
        · cases hy
        · exact a3 m y hy
      · refine ⟨r1.1, r1.2.1, fun m y hy e => ?_⟩
        rw [hrun] at hy
        split at hy
        · cases hy
        · rename_i hne
          exact hne (h.s.apart m y n x hy hx e)
    · rintro ⟨a1, a2, a3⟩
      by_cases e : i = x.at_
      · exact .inr e
      · refine .inl ⟨a1, a2, fun m y hy => ?_⟩
        by_cases em : m = n
        · subst em
          obtain rfl := Option.some.inj (hy.symm.trans hx)
          exact fun q => e q.symm
        · exact a3 m y (by rw [hrun, if_neg em]; exact hy)
  · rcases List.mem_append.1 hb with hb | hb
    · exact h.ok b hb
    · simp at hb; subst hb; exact hn
  · have hmn : m ≠ n := fun e => hnd (by subst e; simp)
    rw [hrun, if_neg hmn]
    exact h.once m y (hin m y hy) fun hm => hnd (List.mem_append_left _ hm)
  · have := h.few
    rw [putD_wait, List.length_append]
    simp
    omega
/-- A slice is put. -/
theorem KInv.put (h : KInv by_ S l lasts puts fr) (n : Nm) (x : Slot) (hn : (run l).sl n = none) (hfr : fr x.at_) (hm : x.mark = 2097152 + (puts + 1)) (hok : (Act.put n x).ok) (hlen : x.len = (by_ n).length) {at_ : Nat} (hat : at_ + 1 ≤ 128) (mark : Int) (bs : List UInt8) :
    KInv by_ (putD (putD S x.at_ 83 (x.mark : Int) (by_ n) 1) at_ 82 mark bs 1) (l ++ [.put n x]) lasts (puts + 1) (fun i => fr i ∧ i ≠ x.at_) := by
  obtain ⟨f1, f2, f3⟩ := (h.free _).1 hfr
  have hrun : ∀ m, (run (l ++ [Act.put n x])).sl m = if m = n then some x else (run l).sl m := fun m => by rw [run_snoc]; rfl
  have hin : ∀ m y, Act.put m y ∈ l ++ [Act.put n x] → Act.put m y ∈ l ∨ (m = n ∧ y = x) := fun m y hy => by
    rcases List.mem_append.1 hy with hy | hy
    · exact .inl hy
    · simp at hy; exact .inr hy
  refine ⟨h.s.put n x (fun m y hy => f3 m y hy) ⟨f1, f2, hlen⟩ (fun m y hy => by have := h.marks m y hy; omega) h.size at_ 82 mark bs 1 hat, h.size, fun m y hy => ?_, fun i => ?_, fun b hb => ?_, fun m y hy hnd => ?_, ?_⟩
  · rcases hin m y hy with h1 | ⟨rfl, rfl⟩
    · have := h.marks m y h1; omega
    · omega
  · rw [h.free]
    constructor
    · rintro ⟨⟨a1, a2, a3⟩, a4⟩
      refine ⟨a1, a2, fun m y hy => ?_⟩
      rw [hrun] at hy
      split at hy
      · obtain rfl := Option.some.inj hy
        exact fun e => a4 e.symm
      · exact a3 m y hy
    · rintro ⟨a1, a2, a3⟩
      refine ⟨⟨a1, a2, fun m y hy => ?_⟩, fun e => ?_⟩
      · by_cases em : m = n
        · subst em; rw [hn] at hy; cases hy
        · exact a3 m y (by rw [hrun, if_neg em]; exact hy)
      · exact a3 n x (by rw [hrun, if_pos rfl]) e.symm
  · rcases List.mem_append.1 hb with hb | hb
    · exact h.ok b hb
    · simp at hb; subst hb; exact hok
  · rw [hrun]
    rcases hin m y hy with h1 | ⟨rfl, rfl⟩
    · have hd : Act.drop m ∉ l := fun q => hnd (List.mem_append_left _ q)
      have := h.once m y h1 hd
      by_cases em : m = n
      · subst em; rw [hn] at this; cases this
      · rw [if_neg em]; exact this
    · rw [if_pos rfl]
  · have := h.few
    rw [putD_wait, putD_wait, List.length_append]
    simp
    omega
end
end Go.Proofs.YtendnkklbeiegaaGreatDoor.StoreP
namespace Go.Proofs.YtendnkklbeiegaaGreatDoor.StoreP
open DiskP PageP JourP

/-- Each sector of slices tells nothing, or a slice that was put there, or is torn. -/
structure Behind (by_ : Nm → List UInt8) (l : List Act) (d : Dsk) : Prop where
  off : d.off = false
  size : d.size = 128
  len : d.last.length = 512
  is_ : ∀ s t, 128 ≤ s → d.told[s]? = some t → Is by_ l s t ∨ t = tornS
  small : ∀ n x, Act.put n x ∈ l → (by_ n).length ≤ 110 ∧ x.mark ≤ 1000000000000
  range : ∀ n x, Act.put n x ∈ l → 128 ≤ x.at_ ∧ x.at_ < 512 ∧ x.len = (by_ n).length
  same : ∀ n x m y, Act.put n x ∈ l → Act.put m y ∈ l → x.mark = y.mark → n = m ∧ x = y
section
variable {by_ : Nm → List UInt8} {l : List Act} {d : Dsk}
theorem Behind.told_at (h : Behind by_ l d) {a : Nat} (ha : a < 512) : ∃ t, d.told[a]? = some t := by
  have := h.len
  exact ⟨_, List.getElem?_eq_getElem (by rw [told_len]; omega)⟩
/-- What is told as the slot says is the slice's own bytes. -/
theorem Behind.ok_bytes (h : Behind by_ l d) {n : Nm} {x : Slot} (hx : Act.put n x ∈ l) (hok : okB d x) : getR d (x.at_ : Int) = (0, 83, (x.mark : Int), by_ n, 1) := by
  obtain ⟨r1, r2, _⟩ := h.range n x hx
  obtain ⟨t, ht⟩ := h.told_at r2
  rcases get_is h.off h.size h.small ht (h.is_ _ _ r1 ht) with ⟨m, y, p1, p2, p3⟩ | ⟨p1, _⟩
  · obtain ⟨_, _, o3, _⟩ := hok
    rw [p3] at o3
    have e : y.mark = x.mark := by
      have : (y.mark : Int) = (x.mark : Int) := o3
      omega
    obtain ⟨rfl, rfl⟩ := h.same m y n x p1 hx e
    exact p3
  · exact absurd hok.1 p1
/-- Two slots that are told lie apart. -/
theorem Behind.no_clash (h : Behind by_ l d) {n m : Nm} {x y : Slot} (hx : Act.put n x ∈ l) (hy : Act.put m y ∈ l) (h1 : okB d x) (h2 : okB d y) (e : x.at_ = y.at_) : n = m := by
  have a1 := h.ok_bytes hx h1
  have a2 := h.ok_bytes hy h2
  rw [e, a2] at a1
  have b1 := (Prod.mk.inj (Prod.mk.inj (Prod.mk.inj a1).2).2).1
  exact (h.same n x m y hx hy (by omega)).1
theorem Behind.stands (h : Behind by_ l d) {n : Nm} {x : Slot} (hx : Act.put n x ∈ l) (ht : d.told[x.at_]? = some (sliceS by_ n x)) : okB d x := by
  have g := get_slice h.off h.size (h.small n x hx).1 (h.small n x hx).2 ht
  unfold okB
  rw [g]
  exact ⟨rfl, rfl, rfl, (h.range n x hx).2.2.symm⟩
theorem Behind.no_down (h : Behind by_ l d) (a : Int) : (getR d a).1 ≠ 10 := getR_no_down d a h.off
/-- A log's turn leaves all that. -/
theorem Behind.of_told {d' : Dsk} (h : Behind by_ l d) (h1 : d'.off = false) (h2 : d'.size = 128) (h3 : d'.last.length = 512) (h4 : ∀ s, 128 ≤ s → d'.told[s]? = d.told[s]?) : Behind by_ l d' :=
  ⟨h1, h2, h3, fun s t hs ht => h.is_ s t hs (by rw [← h4 s hs]; exact ht), h.small, h.range, h.same⟩
end
theorem turnD_same (d : Dsk) (b half e : Nat) (rs : List Rec) : (turnD d b half e rs).size = d.size ∧ (turnD d b half e rs).last.length = d.last.length ∧ (turnD d b half e rs).off = d.off ∧ (turnD d b half e rs).wait = [] :=
  ⟨(fill_same d b half e rs).2.1, (applyW_length _ _).trans ((applyW_length _ _).trans (congrArg List.length (fill_same d b half e rs).1)), (fill_same d b half e rs).2.2, rfl⟩
theorem Behind.turn {by_ : Nm → List UInt8} {l : List Act} {d : Dsk} (h : Behind by_ l d) {b o half e : Nat} {rs : List Rec} (hb : Base d b o half e rs) (hh : b + half ≤ 128) : Behind by_ l (turnD d b half e rs) := by
  obtain ⟨t1, t2, t3, _⟩ := turnD_same d b half e rs
  exact h.of_told (t3.trans h.off) (t1.trans h.size) (t2.trans h.len) fun s hs => turn_far hb (by omega)
theorem on_same (d : Dsk) (ho : d.off = false) (keep : List Bool) (torn : Int) : ((d.cut keep torn).on).size = d.size ∧ ((d.cut keep torn).on).last.length = d.last.length ∧ ((d.cut keep torn).on).off = false ∧ ((d.cut keep torn).on).wait = [] := by
  have e0 : (d.cut keep torn).on = ⟨d.size, applyW d.last (keepW keep torn tornS 0 d.wait), [], false⟩ := by
    unfold Dsk.cut Dsk.on
    simp [ho]
  rw [e0]
  exact ⟨rfl, applyW_length _ _, rfl, rfl⟩
section
variable {by_ : Nm → List UInt8} {S : Dsk} {l : List Act} {lasts puts : Nat} {fr : Nat → Prop}
/-- Behind a cut. -/
theorem KInv.cut (h : KInv by_ S l lasts puts fr) (hp : puts ≤ 1000000) (hby : ∀ n, (by_ n).length ≤ 110) (keep : List Bool) (torn : Int) :
    Behind by_ l (S.cut keep torn).on ∧ ∀ n x, Act.put n x ∈ l.take lasts → (run l).sl n = some x → ((S.cut keep torn).on).told[x.at_]? = some (sliceS by_ n x) := by
  obtain ⟨c1, c2⟩ := h.s.cut keep torn
  obtain ⟨o1, o2, o3, o4⟩ := on_same S h.s.off keep torn
  refine ⟨⟨o3, o1.trans h.size, o2.trans h.s.len, c1, fun n x hx => ⟨hby n, by have := h.marks n x hx; omega⟩, h.s.range, fun n x m y hx hy e => h.s.same hx hy e⟩, c2⟩
/-- What lasted and was never dropped is there behind the first k records, and told. -/
theorem KInv.lasting (h : KInv by_ S l lasts puts fr) {n : Nm} {x : Slot} (hx : Act.put n x ∈ l.take lasts) (hnd : Act.drop n ∉ l) {k : Nat} (hk : lasts ≤ k) : (run l).sl n = some x ∧ (run (l.take k)).sl n = some x := by
  have hr := h.once n x (List.mem_of_mem_take hx) hnd
  exact ⟨hr, live_take hr hx hk fun i i' h1 h2 => h.s.uniq i i' n x n x h1 h2 rfl⟩
end
end Go.Proofs.YtendnkklbeiegaaGreatDoor.StoreP
