/-
  The walk of package disk's Cut.
-/
import Derived.Test.YtendnkklbeiegaaGreatDoorMAG
import Derived.Test.YtendnkklbeiegaaGreatDoorMAF
import Derived.Test.YtendnkklbeiegaaGreatDoorMAE
namespace Go.Proofs.YtendnkklbeiegaaGreatDoor
open Go.RowKit DiskP

def cL (l : List Bool) : List Value := l.map Value.bool
theorem cL_len (l : List Bool) : (cL l).length = l.length := by simp [cL]
/-- What is read lies in none of those blocks. -/
def RVF (w : World) (F : Nat → Prop) (A : Option Addr) (vs : List Value) : Prop :=
  vs ≠ [] → ∃ b off, A = some ⟨b, off, none⟩ ∧ b < w.heap.size ∧ ¬ F b ∧ ∀ j v, vs[j]? = some v → w.cell? ⟨b, off + j, none⟩ = some v
theorem RVF.nil {w : World} {F : Nat → Prop} {A : Option Addr} : RVF w F A [] := fun h => absurd rfl h
theorem RVF.rv {w : World} {F : Nat → Prop} {A : Option Addr} {vs : List Value} (h : RVF w F A vs) : RV w A vs := fun hne => by
  obtain ⟨b, off, e, h1, _, h2⟩ := h hne
  exact ⟨b, off, e, h1, h2⟩
theorem RVF.kept {w w' : World} {F : Nat → Prop} {A : Option Addr} {vs : List Value} (h : RVF w F A vs) (hk : Kept F w w') : RVF w' F A vs := fun hne => by
  obtain ⟨b, off, e, h1, h2, h3⟩ := h hne
  exact ⟨b, off, e, Nat.lt_of_lt_of_le h1 hk.size, h2, fun j v hj => (World.cell?_of_block (w := w) (hk.block b h1 h2)).trans (h3 j v hj)⟩
theorem RVF.mono {w : World} {F G : Nat → Prop} {A : Option Addr} {vs : List Value} (h : RVF w F A vs) (hG : ∀ k, k < w.heap.size → G k → F k) : RVF w G A vs := fun hne => by
  obtain ⟨b, off, e, h1, h2, h3⟩ := h hne
  exact ⟨b, off, e, h1, fun g => h2 (hG b h1 g), h3⟩
theorem RVF.below {w w' : World} {F : Nat → Prop} {A : Option Addr} {vs : List Value} (h : RVF w F A vs) (hb : Below w.heap.size w w') : RVF w' F A vs := h.kept (Kept.of_below hb F)

theorem ptr_row_at {l : List (Option Nat)} {n : Nat} (h : n < l.length) : ((l.map ptrV).toArray)[n]? = some (ptrV (l.getD n none)) := by simp [List.getD, h]
theorem cut_off (y : Lay) (A : Option Addr) (len cap : Nat) (torn : Int) (w : World) (base : Nat) (h : DiskOK w base y) (ho : y.off = true) :
    Calls Tryz.prog 7 #[.pointer (some ⟨y.D, 0, none⟩), .slice A len cap, .int .i64 torn] w fun e w' => e = .returned (.tuple #[]) ∧ w = w' := by
  have c4 := h.c4
  rw [ho] at c4
  go_enter Tryz.func7, Tryz.ntmps7
  go_wp2
  refine bodyPost_ret (results_none rfl _ _ _) rfl ?_
  exact ⟨rfl, rfl⟩

/-- The pointers that last behind the first k writes. -/
def cutP (y : Lay) (keep : List Bool) (torn : Int) (tb k : Nat) : List (Option Nat) := applyW y.lp (keepW keep torn (some tb) 0 (someW (y.wp.take k)))
structure Cutting (w : World) (y : Lay) (keep : List Bool) (torn : Int) (tb k : Nat) (wr : World) : Prop where
  kept : Kept (fun j => j = y.L) w wr
  row : Blk wr y.L 86 ((cutP y keep torn tb k).map ptrV).toArray
  new : w.heap.size ≤ tb
  tear : 0 ≤ torn → torn < k → Blk wr tb 90 #[.slice none 0 0, .bool true, .bool false]

theorem Cutting.other {w wr : World} {base : Nat} {y : Lay} {keep : List Bool} {torn : Int} {tb k : Nat} (f : Cutting w y keep torn tb k wr) (_h : DiskOK w base y) {g : Nat} {t : TypeId} {cs : Array Value} (hb : Blk w g t cs) (ht : g ≠ y.L) : Blk wr g t cs :=
  (f.kept.block g hb.lt ht).trans hb
theorem Cutting.skip {w wr : World} {y : Lay} {keep : List Bool} {torn : Int} {tb k n c : Nat} (f : Cutting w y keep torn tb k wr) (ht : ¬ (k : Int) = torn)
    (hT : cutP y keep torn tb (k + 1) = applyW (cutP y keep torn tb k) (keep1 keep torn (some tb) k (n, some c))) (hk : keep.getD k false = false) (o : Obj) : Cutting w y keep torn tb (k + 1) (wr.alloc o) := by
  have e : keep1 keep torn (some tb) k (n, some c) = [] := by unfold keep1; rw [if_neg ht, hk]; rfl
  refine ⟨f.kept.alloc o, ?_, f.new, fun h0 h1 => (f.tear h0 (by omega)).alloc o⟩
  rw [hT, e]
  exact f.row.alloc o
theorem Cutting.keep_ {w wr : World} {base : Nat} {y : Lay} {keep : List Bool} {torn : Int} {tb k n c : Nat} (f : Cutting w y keep torn tb k wr) (h : DiskOK w base y) (ht : ¬ (k : Int) = torn)
    (hT : cutP y keep torn tb (k + 1) = applyW (cutP y keep torn tb k) (keep1 keep torn (some tb) k (n, some c))) (hk : keep.getD k false = true) (o : Obj) :
    Cutting w y keep torn tb (k + 1) (((wr.setCell ⟨y.L, n, none⟩ (.pointer (some ⟨c, 0, none⟩))).alloc o).drew) := by
  have e : keep1 keep torn (some tb) k (n, some c) = [(n, some c)] := by unfold keep1; rw [if_neg ht, hk]; rfl
  have htb : tb ≠ y.L := by have := f.new; have := h.lk.lt; omega
  refine ⟨((f.kept.setCell (.inl rfl) _).alloc o).drew, ?_, f.new, fun h0 h1 => ((f.tear h0 (by omega)).far (p := ⟨y.L, n, none⟩) htb _).alloc o⟩
  rw [hT, e]
  have := (f.row.set_ n (.pointer (some ⟨c, 0, none⟩))).alloc o
  have e2 : (((cutP y keep torn tb k).map ptrV).toArray).setIfInBounds n (.pointer (some ⟨c, 0, none⟩)) = ((applyW (cutP y keep torn tb k) [(n, some c)]).map ptrV).toArray := by
    show _ = ((((cutP y keep torn tb k).set n (some c))).map ptrV).toArray
    simp [ptrV]
  rw [e2] at this
  exact this
theorem Cutting.torn_ {w wr : World} {base : Nat} {y : Lay} {keep : List Bool} {torn : Int} {tb k n c : Nat} {o : Obj} (f : Cutting w y keep torn tb k wr) (_h : DiskOK w base y) (ht : (k : Int) = torn)
    (hT : cutP y keep torn (wr.heap.size + 1) (k + 1) = applyW (cutP y keep torn (wr.heap.size + 1) k) (keep1 keep torn (some (wr.heap.size + 1)) k (n, some c))) :
    Cutting w y keep torn (wr.heap.size + 1) (k + 1) ((((wr.setCell ⟨y.L, n, none⟩ (.pointer (some ⟨wr.heap.size + 1, 0, none⟩))).alloc o).alloc (.cells #[.slice none 0 0, .bool true, .bool false] 90)).drew) := by
  have e : keep1 keep torn (some (wr.heap.size + 1)) k (n, some c) = [(n, some (wr.heap.size + 1))] := by unfold keep1; rw [if_pos ht]
  have hz : cutP y keep torn (wr.heap.size + 1) k = cutP y keep torn tb k := by
    unfold cutP
    rw [keepW_z keep torn _ (some tb)]
    have : (someW (y.wp.take k)).length ≤ k := by simp [someW]; omega
    omega
  have hsz := f.kept.size
  refine ⟨(((f.kept.setCell (.inl rfl) _).alloc _).alloc _).drew, ?_, by omega, fun _ _ => ?_⟩
  · rw [hT, e, hz]
    have := ((f.row.set_ n (.pointer (some ⟨wr.heap.size + 1, 0, none⟩))).alloc o).alloc (.cells #[.slice none 0 0, .bool true, .bool false] 90)
    have e2 : (((cutP y keep torn tb k).map ptrV).toArray).setIfInBounds n (.pointer (some ⟨wr.heap.size + 1, 0, none⟩)) = ((applyW (cutP y keep torn tb k) [(n, some (wr.heap.size + 1))]).map ptrV).toArray := by
      show _ = ((((cutP y keep torn tb k).set n (some (wr.heap.size + 1)))).map ptrV).toArray
      simp [ptrV]
    rw [e2] at this
    exact this
  · have := Blk.new ((wr.setCell ⟨y.L, n, none⟩ (.pointer (some ⟨wr.heap.size + 1, 0, none⟩))).alloc o) 90 #[.slice none 0 0, .bool true, .bool false]
    refine Blk.drew ?_
    simpa using this

structure Telling (w2 : World) (y : Lay) (lp' : List (Option Nat)) (j : Nat) (wr : World) : Prop where
  kept : Kept (fun k => k = y.T) w2 wr
  row : Blk wr y.T 86 ((applyW y.tp ((y.wp.take j).map fun x => (x.1, lp'.getD x.1 none))).map ptrV).toArray

def cutL (y : Lay) (lp' : List (Option Nat)) (tb : Nat) : Lay :=
  { y with lp := lp', wp := [], wv := .slice none 0 0, off := true, sect := fun k => if k = tb then tornS else y.sect k, bv := fun k => if k = tb then .slice none 0 0 else y.bv k }
theorem cutP_get {w : World} {base : Nat} {y : Lay} (_h : DiskOK w base y) {keep : List Bool} {torn : Int} {tb i c : Nat} (hi : (cutP y keep torn tb y.wp.length)[i]? = some (some c)) :
    y.lp[i]? = some (some c) ∨ (i, c) ∈ y.wp ∨ (c = tb ∧ ∃ m a, ((m : Nat) : Int) = torn ∧ y.wp[m]? = some (i, a)) := by
  have hlt : i < y.lp.length := by
    have := (List.getElem?_eq_some_iff.1 hi).1
    rwa [show (cutP y keep torn tb y.wp.length).length = y.lp.length from applyW_length _ _] at this
  have e := applyW_get y.lp (keepW keep torn (some tb) 0 (someW (y.wp.take y.wp.length))) i hlt
  rw [show (applyW y.lp (keepW keep torn (some tb) 0 (someW (y.wp.take y.wp.length))))[i]? = some (some c) from hi] at e
  injection e with e
  cases hl : lastW (keepW keep torn (some tb) 0 (someW (y.wp.take y.wp.length))) i with
  | none =>
    rw [hl] at e
    left
    rw [List.getElem?_eq_getElem hlt]
    exact congrArg some e.symm
  | some o =>
    rw [hl] at e
    simp only [Option.getD_some] at e
    subst e
    right
    have hm := lastW_mem hl
    rw [List.take_length] at hm
    rcases keepW_mem hm with hm | ⟨h2, m, hm1, a, hm2⟩
    · left
      simp only [someW, List.mem_map] at hm
      obtain ⟨x, hx, he⟩ := hm
      injection he with h1 h2
      injection h2 with h2
      rw [← h1, ← h2]
      exact hx
    · right
      injection h2 with h2
      refine ⟨h2, m, ?_⟩
      simp only [someW, List.getElem?_map] at hm2
      cases hw : y.wp[m]? with
      | none => rw [hw] at hm2; cases hm2
      | some x =>
        rw [hw] at hm2
        simp only [Option.map_some] at hm2
        injection hm2 with hm2
        injection hm2 with h3 h4
        exact ⟨x.2, by omega, by rw [← h3]⟩
theorem cut_ok {w w2 wr : World} {base : Nat} {y : Lay} {keep : List Bool} {torn : Int} {tb : Nat} (h : DiskOK w base y) (ho : y.off = false) (f : Cutting w y keep torn tb y.wp.length w2)
    (q : Telling w2 y (cutP y keep torn tb y.wp.length) y.wp.length wr) :
    Next w base y (y.abs.cut keep torn) ((wr.setCell ⟨y.D, 3, none⟩ (.slice none 0 0)).setCell ⟨y.D, 4, none⟩ (.bool true)) := by
  have hbw : base ≤ w.heap.size := Nat.le_trans h.bD (Nat.le_of_lt h.dk.lt)
  have hLD : y.D ≠ y.L := blk_ne h.dk h.lk (by decide)
  have hDT : y.D ≠ y.T := blk_ne h.dk h.tk (by decide)
  have hcl : (cutP y keep torn tb y.wp.length).length = y.lp.length := applyW_length _ _
  have keep2 : ∀ k, k < w2.heap.size → k ≠ y.T → k ≠ y.D → ((wr.setCell ⟨y.D, 3, none⟩ (.slice none 0 0)).setCell ⟨y.D, 4, none⟩ (.bool true)).heap[k]? = w2.heap[k]? := by
    intro k hk h1 h2
    rw [heap_setCell_other _ _ _ _ h2, heap_setCell_other _ _ _ _ h2]
    exact q.kept.block k hk h1
  have kp : ∀ k, k < w.heap.size → k ≠ y.L → k ≠ y.T → k ≠ y.D → ((wr.setCell ⟨y.D, 3, none⟩ (.slice none 0 0)).setCell ⟨y.D, 4, none⟩ (.bool true)).heap[k]? = w.heap[k]? := by
    intro k hk h0 h1 h2
    rw [keep2 k (Nat.lt_of_lt_of_le hk f.kept.size) h1 h2]
    exact f.kept.block k hk h0
  have hD2 := f.other h h.dk hLD
  have hD : Blk wr y.D 85 y.dcells := (q.kept.block _ hD2.lt hDT).trans hD2
  have hrow : Blk wr y.T 86 ((cutP y keep torn tb y.wp.length).map ptrV).toArray := by
    have := q.row
    rw [List.take_length] at this
    have e := retold y.lp (cutP y keep torn tb y.wp.length) (someW y.wp) (keepW keep torn (some tb) 0 (someW y.wp)) (by unfold cutP; rw [List.take_length]) (fun x hx => keepW_sect hx) none
    have e2 : (someW y.wp).map (fun x => (x.1, (cutP y keep torn tb y.wp.length).getD x.1 none)) = y.wp.map (fun x => (x.1, (cutP y keep torn tb y.wp.length).getD x.1 none)) := by simp [someW]
    rw [e2] at e
    have e3 : applyW y.tp (y.wp.map (fun x => (x.1, (cutP y keep torn tb y.wp.length).getD x.1 none))) = cutP y keep torn tb y.wp.length := e
    rw [e3] at this
    exact this
  have ntb : ∀ c, y.ids c → c ≠ tb := fun c hc e => by have := (h.ck c hc).lt; have := f.new; omega
  have idk : ∀ c, (cutL y (cutP y keep torn tb y.wp.length) tb).ids c → (c ≠ tb ∧ y.ids c) ∨ (c = tb ∧ 0 ≤ torn ∧ torn < y.wp.length) := by
    intro c hc
    rcases hc with hc | ⟨n, hc⟩
    · have hc : some c ∈ cutP y keep torn tb y.wp.length := hc
      obtain ⟨i, hi⟩ := List.getElem?_of_mem hc
      rcases cutP_get h hi with hi | hi | ⟨rfl, m, a, hm, hw⟩
      · exact .inl ⟨ntb c (.inl (List.mem_of_getElem? hi)), .inl (List.mem_of_getElem? hi)⟩
      · exact .inl ⟨ntb c (.inr ⟨i, hi⟩), .inr ⟨i, hi⟩⟩
      · have := (List.getElem?_eq_some_iff.1 hw).1
        exact .inr ⟨rfl, by omega, by omega⟩
    · simp [cutL] at hc
  refine ⟨cutL y (cutP y keep torn tb y.wp.length) tb, ?_, ?_, rfl, ?_, ?_⟩
  · exact {
      dk := by
        have := (hD.set_ 3 (.slice none 0 0)).set_ 4 (.bool true)
        have e : (cutL y (cutP y keep torn tb y.wp.length) tb).dcells = (y.dcells.setIfInBounds 3 (.slice none 0 0)).setIfInBounds 4 (.bool true) := by simp [cutL, Lay.dcells, hcl]
        rw [e]
        exact this
      lk := (keep2 y.L f.row.lt h.lt (fun e => hLD e.symm)).trans f.row
      tk := (hrow.far (p := ⟨y.D, 3, none⟩) hDT.symm _).far (p := ⟨y.D, 4, none⟩) hDT.symm _
      wk := World.ownsRow_nil _ _ _ _
      ck := fun c hc => by
        rcases idk c hc with ⟨hne, hc⟩ | ⟨rfl, h0, h1⟩
        · have e : (cutL y (cutP y keep torn tb y.wp.length) tb).bv c = y.bv c := if_neg hne
          have e2 : (cutL y (cutP y keep torn tb y.wp.length) tb).sect c = y.sect c := if_neg hne
          rw [e, e2]
          have hck := h.ck c hc
          exact (kp c hck.lt (blk_ne hck h.lk (by decide)) (blk_ne hck h.tk (by decide)) (blk_ne hck h.dk (by decide))).trans hck
        · have e : (cutL y (cutP y keep torn c y.wp.length) c).bv c = .slice none 0 0 := if_pos rfl
          have e2 : (cutL y (cutP y keep torn c y.wp.length) c).sect c = tornS := if_pos rfl
          rw [e, e2]
          have ht := f.tear h0 (by omega)
          exact (keep2 c ht.lt (by have := h.tk.lt; have := f.new; omega) (by have := h.dk.lt; have := f.new; omega)).trans ht
      bk := fun c hc => by
        rcases idk c hc with ⟨hne, hc⟩ | ⟨rfl, h0, h1⟩
        · have e : (cutL y (cutP y keep torn tb y.wp.length) tb).bv c = y.bv c := if_neg hne
          have e2 : (cutL y (cutP y keep torn tb y.wp.length) tb).sect c = y.sect c := if_neg hne
          rw [e, e2]
          have hbk := h.bk c hc
          show BytesOK _ _ y.size (y.bv c) (y.sect c).bytes
          cases hs : (y.sect c).bytes with
          | none => rw [hs] at hbk; exact hbk
          | some m =>
            rw [hs] at hbk
            exact ⟨hbk.1, own_frame hbk.2 fun j hj => kp j (own_lt hbk.2 hj).2 (own_ne hbk.2 hj h.lk (by decide)) (own_ne hbk.2 hj h.tk (by decide)) (own_ne hbk.2 hj h.dk (by decide))⟩
        · have e : (cutL y (cutP y keep torn c y.wp.length) c).bv c = .slice none 0 0 := if_pos rfl
          have e2 : (cutL y (cutP y keep torn c y.wp.length) c).sect c = tornS := if_pos rfl
          rw [e, e2]
          rfl
      bD := h.bD
      bL := h.bL
      bT := h.bT
      bc := fun c hc => by
        rcases idk c hc with ⟨_, hc⟩ | ⟨rfl, _, _⟩
        · exact h.bc c hc
        · have := f.new; omega
      n1 := fun i j c hi hj => by
        have hi : (cutP y keep torn tb y.wp.length)[i]? = some (some c) := hi
        have hj : (cutP y keep torn tb y.wp.length)[j]? = some (some c) := hj
        have nw : ∀ {i : Nat}, (i, c) ∈ y.wp → c ≠ tb := fun hw => ntb c (.inr ⟨_, hw⟩)
        have nl : ∀ {i : Nat}, y.lp[i]? = some (some c) → c ≠ tb := fun hl => ntb c (.inl (List.mem_of_getElem? hl))
        rcases cutP_get h hi with hi | hi | ⟨rfl, m, a, hm, hw⟩ <;> rcases cutP_get h hj with hj | hj | ⟨e, m', a', hm', hw'⟩
        · exact h.n1 i j c hi hj
        · exact (h.n3 c j (List.mem_of_getElem? hi) hj).elim
        · exact absurd e (nl hi)
        · exact (h.n3 c i (List.mem_of_getElem? hj) hi).elim
        · obtain ⟨a, ha⟩ := List.getElem?_of_mem hi
          obtain ⟨b, hb⟩ := List.getElem?_of_mem hj
          have := h.n2 a b i j c ha hb
          subst this
          rw [ha] at hb
          injection hb with hb
          injection hb with hb _
        · exact absurd e (nw hi)
        · exact absurd rfl (nl hj)
        · exact absurd rfl (nw hj)
        · have : m = m' := by omega
          subst this
          rw [hw] at hw'
          injection hw' with hw'
          injection hw' with hw' _
      n2 := fun i j n m c hi _ => by simp [cutL] at hi
      n3 := fun c n _ hn => by simp [cutL] at hn
      nb := fun c c' k hc hc' hk hk' => by
        have bvt : (cutL y (cutP y keep torn tb y.wp.length) tb).bv tb = .slice none 0 0 := if_pos rfl
        have bvn : ∀ c, c ≠ tb → (cutL y (cutP y keep torn tb y.wp.length) tb).bv c = y.bv c := fun c hne => if_neg hne
        rcases idk c hc with ⟨hne, h1⟩ | ⟨e, _, _⟩
        · rcases idk c' hc' with ⟨hne', h1'⟩ | ⟨e, _, _⟩
          · rw [bvn _ hne] at hk
            rw [bvn _ hne'] at hk'
            exact h.nb c c' k h1 h1' hk hk'
          · rw [e, bvt] at hk'; cases hk'
        · rw [e, bvt] at hk; cases hk
      lt := h.lt
      wr := fun n c hn => by simp [cutL] at hn
      s1 := h.s1
      s2 := h.s2
      l1 := by show 1 ≤ (cutP y keep torn tb y.wp.length).length; rw [hcl]; exact h.l1
      l2 := by show (cutP y keep torn tb y.wp.length).length ≤ 65536; rw [hcl]; exact h.l2 }
  · have hoff : y.abs.off = false := ho
    unfold Dsk.cut
    rw [hoff, if_neg (by decide)]
    show Dsk.mk _ _ _ _ = Dsk.mk _ _ _ _
    congr 1
    obtain ⟨sg, hsg⟩ : ∃ sg : Nat → Sect, sg = (fun k => if k = tb then tornS else y.sect k) := ⟨_, rfl⟩
    have s1 : ∀ c, c ≠ tb → sg c = y.sect c := fun c hc => by rw [hsg]; exact if_neg hc
    have s2 : sg tb = tornS := by rw [hsg]; exact if_pos rfl
    have e1 : y.abs.last = y.lp.map (ptrS y.size sg) := by
      apply List.map_congr_left
      intro o hoo
      cases o with
      | none => rfl
      | some c => exact (s1 c (ntb c (.inl hoo))).symm
    have e2 : y.abs.wait = (someW y.wp).map (fun x => (x.1, ptrS y.size sg x.2)) := by
      show y.wp.map _ = _
      unfold someW
      rw [List.map_map]
      apply List.map_congr_left
      intro x hx
      show (x.1, y.sect x.2) = (x.1, sg x.2)
      rw [s1 x.2 (ntb x.2 (.inr ⟨x.1, hx⟩))]
    have e3 : tornS = ptrS y.size sg (some tb) := s2.symm
    rw [e1, e2, e3, keepW_map, applyW_map]
    show (cutP y keep torn tb y.wp.length).map (ptrS y.size (fun k => if k = tb then tornS else y.sect k)) = _
    rw [← hsg]
    unfold cutP
    rw [List.take_length]
  · exact (((f.kept.mono (fun k _ hk => .inr (.inl hk))).trans (q.kept.mono (fun k _ hk => .inr (.inr (.inl hk))))).setCell (.inl (.inl rfl)) _).setCell (.inl (.inl rfl)) _
  · intro k hk
    rcases hk with rfl | rfl | rfl | hk | hk | ⟨c, hc, hk⟩
    · exact .inl (.inl rfl)
    · exact .inl (.inr (.inl rfl))
    · exact .inl (.inr (.inr (.inl rfl)))
    · cases hk
    · rcases idk k hk with ⟨_, hk⟩ | ⟨rfl, _, _⟩
      · exact .inl (.inr (.inr (.inr (.inr (.inl hk)))))
      · exact .inr f.new
    · rcases idk c hc with ⟨hne, hc⟩ | ⟨rfl, _, _⟩
      · have e : (cutL y (cutP y keep torn tb y.wp.length) tb).bv c = y.bv c := if_neg hne
        rw [e] at hk
        exact .inl (.inr (.inr (.inr (.inr (.inr ⟨c, hc, hk⟩)))))
      · have e : (cutL y (cutP y keep torn c y.wp.length) c).bv c = .slice none 0 0 := if_pos rfl
        rw [e] at hk
        cases hk
theorem cut_on (y : Lay) (keep : List Bool) (A : Option Addr) (cap : Nat) (torn : Int) (w : World) (base : Nat) (h : DiskOK w base y) (ho : y.off = false) (hw : y.wp.length ≤ 1000000000)
    (_hkl : keep.length ≤ 9223372036854775807) (hR : RVF w y.foot A (cL keep)) :
    Calls Tryz.prog 7 #[.pointer (some ⟨y.D, 0, none⟩), .slice A keep.length cap, .int .i64 torn] w fun e w' => e = .returned (.tuple #[]) ∧ Next w base y (y.abs.cut keep torn) w' := by
  have c4 := h.c4
  rw [ho] at c4
  have c3 := h.c3
  obtain ⟨Aw, cp, hv, _, _⟩ := own_form h.wk
  rw [hv] at c3
  go_enter Tryz.func7, Tryz.ntmps7
  go_wp2
  go_loopw [6, 7, 23, 28, 41] (fun _ _ i _ _ wr => ∃ k tb : Nat, k ≤ y.wp.length ∧ i = .int .i64 k ∧ Cutting w y keep torn tb k wr) (fun _ _ i _ _ _ => y.wp.length - (intOf i).toNat)
  case atStart => exact ⟨0, w.heap.size, by omega, rfl, Kept.refl _ _, h.lk, Nat.le_refl _, fun h0 h1 => by omega⟩
  case round =>
    obtain ⟨k, tb, hk, rfl, f⟩ := hrel
    have hLD : y.D ≠ y.L := blk_ne h.dk h.lk (by decide)
    have hD : Blk wr y.D 85 y.dcells := (f.kept.block _ h.dk.lt hLD).trans h.dk
    by_cases hlt : k < y.wp.length
    · obtain ⟨g, cap', hv', hg, k0, k1⟩ := h.wcell hlt
      have hvv := hv.symm.trans hv'
      injection hvv with hA _ hcp
      subst hA
      subst hcp
      have hgL : g ≠ y.L := own_ne h.wk (by rw [hv']; rfl) h.lk (by decide)
      have k0' : wr.cell? ⟨g, k * 2, none⟩ = some (.int .i64 ((y.wp[k]).1 : Int)) := (World.cell?_of_block (w := w) (f.kept.block g hg hgL)).trans k0
      have k1' : wr.cell? ⟨g, k * 2 + 1, none⟩ = some (.pointer (some ⟨(y.wp[k]).2, 0, none⟩)) := (World.cell?_of_block (w := w) (f.kept.block g hg hgL)).trans k1
      have hwr : (y.wp[k]).1 < y.lp.length := h.wr _ (y.wp[k]).2 (List.getElem_mem hlt)
      have HT : ∀ tb', Hid (cutP y keep torn tb' (k + 1) = applyW (cutP y keep torn tb' k) (keep1 keep torn (some tb') k ((y.wp[k]).1, some (y.wp[k]).2))) := by
        intro tb'
        show _ = _
        unfold cutP
        rw [List.take_succ_eq_append_getElem hlt]
        have : someW (y.wp.take k ++ [y.wp[k]]) = someW (y.wp.take k) ++ [((y.wp[k]).1, some (y.wp[k]).2)] := by unfold someW; rw [List.map_append]; rfl
        rw [this, keepW_snoc, applyW_append, Nat.zero_add]
        have hlen : (someW (y.wp.take k)).length = k := by simp [someW]; omega
        rw [hlen]
      generalize y.wp[k] = x at *
      obtain ⟨n, c⟩ := x
      simp only at k0' k1' hwr HT
      have d1 : wr.cell? ⟨y.D, 1, none⟩ = some (.slice (some ⟨y.L, 0, none⟩) y.lp.length y.lp.length) := hD.at_ rfl
      have hDl := hD.lt
      have hLl := f.row.lt
      have hcl : ∀ tb', (cutP y keep torn tb' k).length = y.lp.length := fun tb' => applyW_length _ _
      obtain ⟨pv, cLn⟩ : ∃ pv, wr.cell? ⟨y.L, n, none⟩ = some pv := by
        have hlt : n < (cutP y keep torn tb k).length := by rw [hcl]; exact hwr
        exact ⟨ptrV (cutP y keep torn tb k)[n], f.row.at_ (by simp [hlt])⟩
      have zL := f.row.frozen n
      have HT' := HT
      clear k0 k1 c3 c4 hv hv' hD hcl HT
      by_cases ht : (k : Int) = torn
      · have hte : ((k : Int) == torn) = true := by simpa using ht
        have Ht := Lib.hid ht
        clear ht
        have HT := HT'
        clear HT'
        have HTh := Lib.hid HT
        clear HT
        go_wp2
        go_region
        go_wp2
        go_roundw
        case rel => exact ⟨k + 1, _, by omega, by go_num, f.torn_ h Ht.out (HTh.out _).out⟩
        case measure => simp [intOf]; omega
      · have hte : ((k : Int) == torn) = false := by simpa using ht
        have Ht := Lib.hid ht
        clear ht
        have HTh := Lib.hid HT'
        clear HT'
        by_cases hkk : k < keep.length
        · have dk : decide (k < keep.length) = true := by simpa using hkk
          obtain ⟨bk, ofk, rfl, hbk, hbF, hck⟩ := hR (by rintro e; have := cL_len keep; rw [e] at this; simp at this; omega)
          have hbkL : bk ≠ y.L := fun e => hbF (.inr (.inl e))
          have kc : wr.cell? ⟨bk, ofk + k, none⟩ = some (.bool keep[k]) := (World.cell?_of_block (w := w) (f.kept.block bk hbk hbkL)).trans (hck k _ (by simp [cL, hkk]))
          have hbkl : bk < wr.heap.size := Nat.lt_of_lt_of_le hbk f.kept.size
          have hkg : keep.getD k false = keep[k] := by simp [List.getD, hkk]
          have Hkg := Lib.hid hkg
          clear hkg hck
          cases hkv : keep[k]
          · rw [hkv] at kc
            go_wp2
            go_roundw
            case rel => exact ⟨k + 1, tb, by omega, by go_num, f.skip Ht.out (HTh.out _).out (by rw [Hkg.out]; exact hkv) _⟩
            case measure => simp [intOf]; omega
          · rw [hkv] at kc
            go_wp2
            go_region
            go_wp2
            go_roundw
            case rel => exact ⟨k + 1, tb, by omega, by go_num, f.keep_ h Ht.out (HTh.out _).out (by rw [Hkg.out]; exact hkv) _⟩
            case measure => simp [intOf]; omega
        · have dk : decide (k < keep.length) = false := by simpa using hkk
          go_wp2
          go_roundw
          case rel => exact ⟨k + 1, tb, by omega, by go_num, f.skip Ht.out (HTh.out _).out (by simp [List.getD, Nat.le_of_not_lt hkk]) _⟩
          case measure => simp [intOf]; omega
    · obtain rfl : k = y.wp.length := by omega
      have HF := Lib.hid f
      clear f
      obtain ⟨w2, rfl⟩ : ∃ w2 : World, w2 = wr := ⟨_, rfl⟩
      have c3' : w2.cell? ⟨y.D, 3, none⟩ = some (.slice Aw y.wp.length cp) := by rw [← hv]; exact hD.at_ rfl
      clear c3 c4 hk hlt
      go_wp2
      go_loopw [9, 67] (fun _ i wr => ∃ j : Nat, j ≤ y.wp.length ∧ i = .int .i64 j ∧ Telling w2 y (cutP y keep torn tb y.wp.length) j wr) (fun _ i _ => y.wp.length - (intOf i).toNat)
      case atStart => exact ⟨0, by omega, rfl, Kept.refl _ _, (HF.out.other h h.tk (fun e => h.lt e.symm))⟩
      case round =>
        obtain ⟨j, hj, rfl, q⟩ := hrel
        have hDT : y.D ≠ y.T := blk_ne h.dk h.tk (by decide)
        have hD2 : Blk wr y.D 85 y.dcells := (q.kept.block _ hD.lt hDT).trans hD
        by_cases hlt : j < y.wp.length
        · obtain ⟨g, cap', hv', hg, k0, k1⟩ := h.wcell hlt
          have hvv := hv.symm.trans hv'
          injection hvv with hA _ hcp
          subst hA
          subst hcp
          have hgL : g ≠ y.L := own_ne h.wk (by rw [hv']; rfl) h.lk (by decide)
          have hgT : g ≠ y.T := own_ne h.wk (by rw [hv']; rfl) h.tk (by decide)
          have hg2 : g < w2.heap.size := Nat.lt_of_lt_of_le hg HF.out.kept.size
          have k0' : wr.cell? ⟨g, j * 2, none⟩ = some (.int .i64 ((y.wp[j]).1 : Int)) := (World.cell?_of_block (w := w) ((q.kept.block g hg2 hgT).trans (HF.out.kept.block g hg hgL))).trans k0
          have k1' : wr.cell? ⟨g, j * 2 + 1, none⟩ = some (.pointer (some ⟨(y.wp[j]).2, 0, none⟩)) := (World.cell?_of_block (w := w) ((q.kept.block g hg2 hgT).trans (HF.out.kept.block g hg hgL))).trans k1
          have hwr : (y.wp[j]).1 < y.lp.length := h.wr _ (y.wp[j]).2 (List.getElem_mem hlt)
          have HT : Hid ((y.wp.take (j + 1)).map (fun x => (x.1, (cutP y keep torn tb y.wp.length).getD x.1 none)) = (y.wp.take j).map (fun x => (x.1, (cutP y keep torn tb y.wp.length).getD x.1 none)) ++ [((y.wp[j]).1, (cutP y keep torn tb y.wp.length).getD (y.wp[j]).1 none)]) := by
            show _ = _
            rw [List.take_succ_eq_append_getElem hlt, List.map_append]; rfl
          generalize y.wp[j] = x at *
          obtain ⟨n, c⟩ := x
          simp only at k0' k1' hwr HT
          have d1 : wr.cell? ⟨y.D, 1, none⟩ = some (.slice (some ⟨y.L, 0, none⟩) y.lp.length y.lp.length) := hD2.at_ rfl
          have d2 : wr.cell? ⟨y.D, 2, none⟩ = some (.slice (some ⟨y.T, 0, none⟩) y.lp.length y.lp.length) := hD2.at_ rfl
          have hDl := hD2.lt
          have hcl : (cutP y keep torn tb y.wp.length).length = y.lp.length := applyW_length _ _
          have hLb : Blk wr y.L 86 ((cutP y keep torn tb y.wp.length).map ptrV).toArray := (q.kept.block _ HF.out.row.lt h.lt).trans HF.out.row
          have hLl := hLb.lt
          have hTl := q.row.lt
          have cLn : wr.cell? ⟨y.L, n, none⟩ = some (ptrV ((cutP y keep torn tb y.wp.length).getD n none)) := hLb.at_ (ptr_row_at (by rw [hcl]; exact hwr))
          obtain ⟨pv, cTn⟩ : ∃ pv, wr.cell? ⟨y.T, n, none⟩ = some pv := by
            have hlen : (applyW y.tp ((y.wp.take j).map fun x => (x.1, (cutP y keep torn tb y.wp.length).getD x.1 none))).length = y.lp.length := by rw [applyW_length, tp_len]
            exact ⟨ptrV ((applyW y.tp ((y.wp.take j).map fun x => (x.1, (cutP y keep torn tb y.wp.length).getD x.1 none))).getD n none), q.row.at_ (ptr_row_at (by rw [hlen]; exact hwr))⟩
          have zT := q.row.frozen n
          have hpf : ∃ a, ptrV ((cutP y keep torn tb y.wp.length).getD n none) = .pointer a := by
            cases (cutP y keep torn tb y.wp.length).getD n none with
            | none => exact ⟨_, rfl⟩
            | some c => exact ⟨_, rfl⟩
          obtain ⟨pa, hpa⟩ := hpf
          rw [hpa] at cLn
          have Hpa := Lib.hid hpa
          clear k0 k1 hv hv' hD2 hcl hLb hpa hD
          go_wp2
          go_region
          go_wp2
          go_roundw
          case rel =>
            refine ⟨j + 1, by omega, by go_num, ((q.kept.setCell (.inl rfl) _).alloc _).drew, ?_⟩
            have := (q.row.set_ n (.pointer pa)).alloc (.cells #[.int .i64 (n : Int), .pointer (some ⟨c, 0, none⟩)] 88)
            rw [HT.out, toldW_snoc]
            have e : (((applyW y.tp ((y.wp.take j).map fun x => (x.1, (cutP y keep torn tb y.wp.length).getD x.1 none))).map ptrV).toArray).setIfInBounds n (.pointer pa) =
                (((applyW y.tp ((y.wp.take j).map fun x => (x.1, (cutP y keep torn tb y.wp.length).getD x.1 none))).set n ((cutP y keep torn tb y.wp.length).getD n none)).map ptrV).toArray := by
              rw [List.map_set, Hpa.out]; simp
            rw [e] at this
            exact this
          case measure => simp [intOf]; omega
        · obtain rfl : j = y.wp.length := by omega
          have HN := Lib.hid (cut_ok h ho HF.out q)
          have hDl := hD2.lt
          have d3 : wr.cell? ⟨y.D, 3, none⟩ = some y.wv := hD2.at_ rfl
          have z3 := hD2.frozen 3
          have d4 : wr.cell? ⟨y.D, 4, none⟩ = some (.bool y.off) := hD2.at_ rfl
          have z4 := hD2.frozen 4
          clear hv hD2
          go_wp2
          go_end0
          exact ⟨rfl, HN.out⟩
end Go.Proofs.YtendnkklbeiegaaGreatDoor
namespace Go.Proofs.YtendnkklbeiegaaGreatDoor
open Go.RowKit DiskP

theorem Next.trans {w w1 w2 : World} {base : Nat} {y y1 : Lay} {S : Dsk} (d1 : y1.D = y.D) (k1 : Kept y.foot w w1) (f1 : ∀ k, y1.foot k → y.foot k ∨ w.heap.size ≤ k) (h : Next w1 base y1 S w2) : Next w base y S w2 := by
  obtain ⟨y2, h2, a2, d2, k2, f2⟩ := h
  refine ⟨y2, h2, a2, d2.trans d1, ⟨k2.os.trans k1.os, k2.tape.trans k1.tape, k2.output.trans k1.output, Nat.le_trans k1.size k2.size, fun k hk hF => ?_⟩, ?_⟩
  · refine (k2.block k (Nat.lt_of_lt_of_le hk k1.size) fun hf => ?_).trans (k1.block k hk hF)
    rcases f1 k hf with h | h
    · exact hF h
    · omega
  · intro k hk
    rcases f2 k hk with h | h
    · exact f1 k h
    · exact .inr (Nat.le_trans k1.size h)
/- ### A bit is turned -/
def turned (y : Lay) (c bit : Nat) : Lay := { y with sect := fun k => if k = c then (y.sect c).turn bit else y.sect k }
end Go.Proofs.YtendnkklbeiegaaGreatDoor
namespace Go.Proofs.YtendnkklbeiegaaGreatDoor
open Go.RowKit DiskP

theorem write_at (y : Lay) (n : Int) (l : List UInt8) (len : Nat) (A : Option Addr) (cap : Nat) (w : World) (base : Nat) (h : DiskOK w base y) (hR : RB w A l) (hlen : l.length = len) (hl : len ≤ 9223372036854775807) (hw : y.wp.length ≤ 1000000000) :
    Calls Tryz.prog 114 #[.pointer (some ⟨y.D, 0, none⟩), .int .i64 n, .slice A len cap] w (RetErr w base y (y.abs.writeE n l) (y.abs.writeS n l)) := by
  subst hlen; exact write_calls y n l A cap w base h hR hl hw
def DiskP.Dsk.flushE (d : Dsk) : Int := if d.off then 10 else 0
def DiskP.Dsk.flushS (d : Dsk) : Dsk := if d.off then d else d.flush
theorem flush_calls (y : Lay) (w : World) (base : Nat) (h : DiskOK w base y) (hw : y.wp.length ≤ 1000000000) :
    Calls Tryz.prog 104 #[.pointer (some ⟨y.D, 0, none⟩)] w (RetErr w base y y.abs.flushE y.abs.flushS) := by
  cases ho : y.off
  · have e1 : y.abs.flushE = 0 := by unfold DiskP.Dsk.flushE; rw [show y.abs.off = false from ho]; rfl
    have e2 : y.abs.flushS = y.abs.flush := by unfold DiskP.Dsk.flushS; rw [show y.abs.off = false from ho]; rfl
    rw [e1, e2]
    exact flush_on y w base h ho hw
  · have e1 : y.abs.flushE = 10 := by unfold DiskP.Dsk.flushE; rw [show y.abs.off = true from ho]; rfl
    have e2 : y.abs.flushS = y.abs := by unfold DiskP.Dsk.flushS; rw [show y.abs.off = true from ho]; rfl
    rw [e1, e2]
    exact flush_off y w base h ho
theorem cut_calls (y : Lay) (keep : List Bool) (A : Option Addr) (cap : Nat) (torn : Int) (w : World) (base : Nat) (h : DiskOK w base y) (hw : y.wp.length ≤ 1000000000)
    (hkl : keep.length ≤ 9223372036854775807) (hR : RVF w y.foot A (cL keep)) :
    Calls Tryz.prog 7 #[.pointer (some ⟨y.D, 0, none⟩), .slice A keep.length cap, .int .i64 torn] w fun e w' => e = .returned (.tuple #[]) ∧ Next w base y (y.abs.cut keep torn) w' := by
  cases ho : y.off
  · exact cut_on y keep A cap torn w base h ho hw hkl hR
  · refine (cut_off y A keep.length cap torn w base h ho).mono fun e w' ⟨he, hw'⟩ => ⟨he, ?_⟩
    subst hw'
    have : y.abs.cut keep torn = y.abs := by unfold Dsk.cut; rw [show y.abs.off = true from ho]; rfl
    rw [this]
    exact Next.same h
theorem wlen (y : Lay) : y.wp.length = y.abs.wait.length := by simp [Lay.abs]

end Go.Proofs.YtendnkklbeiegaaGreatDoor
namespace Go.Proofs.YtendnkklbeiegaaGreatDoor
open Go.RowKit DiskP SumP PageP

theorem pneed_calls (size bytes : Int) (w : World) : Calls Tryz.prog 28 #[.int .i64 size, .int .i64 bytes] w fun e w' => e = .returned (.int .i64 (need size bytes)) ∧ w = w' := by
  by_cases h1 : size < 19
  · have HE : Hid (need size bytes = 0) := if_pos (.inl h1)
    have d1 : decide (size < 19) = true := by simpa using h1
    go_enter Tryz.func28, Tryz.ntmps28
    go_wp2
    go_ret
    exact ⟨by rw [HE.out]; rfl, rfl⟩
  have d1 : decide (size < 19) = false := by simpa using h1
  by_cases h2 : 4096 < size
  · have HE : Hid (need size bytes = 0) := if_pos (.inr (.inl h2))
    have d2 : decide (4096 < size) = true := by simpa using h2
    go_enter Tryz.func28, Tryz.ntmps28
    go_wp2
    go_ret
    exact ⟨by rw [HE.out]; rfl, rfl⟩
  have d2 : decide (4096 < size) = false := by simpa using h2
  by_cases h3 : bytes < 0
  · have HE : Hid (need size bytes = 0) := if_pos (.inr (.inr (.inl h3)))
    have d3 : decide (bytes < 0) = true := by simpa using h3
    go_enter Tryz.func28, Tryz.ntmps28
    go_wp2
    go_ret
    exact ⟨by rw [HE.out]; rfl, rfl⟩
  have d3 : decide (bytes < 0) = false := by simpa using h3
  by_cases h4 : 1073741824 < bytes
  · have HE : Hid (need size bytes = 0) := if_pos (.inr (.inr (.inr h4)))
    have d4 : decide (1073741824 < bytes) = true := by simpa using h4
    go_enter Tryz.func28, Tryz.ntmps28
    go_wp2
    go_ret
    exact ⟨by rw [HE.out]; rfl, rfl⟩
  have d4 : decide (1073741824 < bytes) = false := by simpa using h4
  by_cases h5 : (bytes + (size - 18) - 1) / (size - 18) < 1
  · have HE : Hid (need size bytes = 1) := by show _ = _; unfold need; rw [if_neg (by omega), if_pos h5]
    go_enter Tryz.func28, Tryz.ntmps28
    go_wp2
    go_ret
    exact ⟨by rw [HE.out]; rfl, rfl⟩
  · have HE : Hid (need size bytes = (bytes + (size - 18) - 1) / (size - 18)) := by show _ = _; unfold need; rw [if_neg (by omega), if_neg h5]
    go_enter Tryz.func28, Tryz.ntmps28
    go_wp2
    go_ret
    exact ⟨by rw [HE.out]; rfl, rfl⟩
theorem plain_calls (l : List UInt8) (A : Option Addr) (cap : Nat) (w : World) (hR : RB w A l) (hl : l.length ≤ 9223372036854775807) :
    Calls Tryz.prog 127 #[.slice A l.length cap] w fun e w' => e = .returned (.bool (plainB l)) ∧ w = w' := by
  go_enter Tryz.func127, Tryz.ntmps127
  go_wp2
  go_loop [4, 7] (fun _ i => ∃ k : Nat, k ≤ l.length ∧ i = .int .i64 k ∧ plainB (l.take k) = true) (fun _ i => l.length - (intOf i).toNat)
  case atStart => exact ⟨0, by omega, rfl, rfl⟩
  case round =>
    obtain ⟨k, hk, rfl, hp⟩ := hrel
    by_cases hlt : k < l.length
    · obtain ⟨b, off, rfl, hb, hc⟩ := RB.at_ hR hlt
      have HT : Hid (plainB (l.take (k + 1)) = (l[k] == 0)) := by show _ = _; unfold plainB at hp ⊢; rw [List.take_succ_eq_append_getElem hlt, List.all_append, hp]; simp
      have HD : Hid (l = l.take k ++ l[k] :: l.drop (k + 1)) := by show _ = _; rw [List.getElem_cons_drop]; exact (List.take_append_drop k l).symm
      have hdec : decide ((k : Int) < (l.length : Int)) = true := by simp; omega
      generalize l[k] = c at *
      have HP := Lib.hid hp
      clear hp
      by_cases hz : c = 0
      · subst hz
        have hc' : w.cell? ⟨b, off + k, none⟩ = some (.int .u8 0) := hc
        clear hc
        go_wp2
        go_round
        case rel => exact ⟨k + 1, by omega, by go_num, by rw [HT.out]; rfl⟩
        case measure => simp [intOf]; omega
      · have hz1 : ((c.toNat : Int) != 0) = true := by
          have : ¬ c.toNat = 0 := fun e => hz (by rw [← UInt8.toNat_inj, e]; rfl)
          simp; omega
        have HF : Hid (plainB l = false) := by
          show _ = _
          rw [HD.out]
          unfold plainB
          simp [hz]
        clear HD HT
        go_wp2
        go_ret
        exact ⟨by rw [HF.out]; rfl, rfl⟩
    · obtain rfl : k = l.length := by omega
      rw [List.take_length] at hp
      have HP := Lib.hid hp
      clear hp
      go_wp2
      go_ret
      exact ⟨by rw [HP.out]; rfl, rfl⟩
end Go.Proofs.YtendnkklbeiegaaGreatDoor
namespace Go.Proofs.YtendnkklbeiegaaGreatDoor
open Go.RowKit DiskP SumP PageP

theorem or_byte (n : Nat) (c : UInt8) (hn : n < 72057594037927936) : bits .or .u64 ((n : Int) * 256) (c.toNat : Int) = ((n * 256 + c.toNat : Nat) : Int) := by
  have hc := c.toNat_lt
  have e : (n : Int) * 256 = ((n * 256 : Nat) : Int) := by simp
  rw [e, u64_or_nat _ _ (by omega) (by omega)]
  congr 1
  have h := Nat.shiftLeft_add_eq_or_of_lt (b := c.toNat) (i := 8) hc n
  rw [Nat.shiftLeft_eq] at h
  exact h.symm
theorem shift_byte (N m k : Nat) : ((N : Int) / 2 ^ (8 * (m - 1 - k)) % 256) = ((UInt8.ofNat (N / 256 ^ (m - 1 - k))).toNat : Int) := by
  rw [UInt8.toNat_ofNat', show (256 : Nat) = 2 ^ 8 from rfl, ← Nat.pow_mul]
  simp
theorem number_calls (l : List UInt8) (A : Option Addr) (cap : Nat) (w : World) (hR : RB w A l) (hl : l.length ≤ 8) :
    Calls Tryz.prog 161 #[.slice A l.length cap] w fun e w' => e = .returned (.int .u64 ((beN l : Nat) : Int)) ∧ w = w' := by
  go_enter Tryz.func161, Tryz.ntmps161
  go_wp2
  go_loop [3, 5, 8] (fun n _ i => ∃ k : Nat, k ≤ l.length ∧ i = .int .i64 k ∧ n = .int .u64 ((beN (l.take k) : Nat) : Int)) (fun _ _ i => l.length - (intOf i).toNat)
  case atStart => exact ⟨0, by omega, rfl, rfl⟩
  case round =>
    obtain ⟨k, hk, rfl, rfl⟩ := hrel
    by_cases hlt : k < l.length
    · obtain ⟨b, off, rfl, hb, hc⟩ := RB.at_ hR hlt
      have HT : Hid (beN (l.take (k + 1)) = beN (l.take k) * 256 + (l[k]).toNat) := by show _ = _; rw [List.take_succ_eq_append_getElem hlt, beN_snoc]
      have hB : beN (l.take k) < 72057594037927936 := by
        have h1 := beN_lt (l.take k)
        have h2 : 256 ^ (l.take k).length ≤ 256 ^ 7 := Nat.pow_le_pow_right (by omega) (by simp; omega)
        have h3 : (256 : Nat) ^ 7 = 72057594037927936 := rfl
        omega
      have hdec : decide ((k : Int) < (l.length : Int)) = true := by simp; omega
      generalize l[k] = c at *
      generalize beN (l.take k) = n at *
      have hcl := c.toNat_lt
      go_wp2
      go_round
      case rel => exact ⟨k + 1, by omega, by go_num, by rw [HT.out, or_byte n c hB]⟩
      case measure => simp [intOf]; omega
    · obtain rfl : k = l.length := by omega
      go_wp2
      go_ret
      exact ⟨rfl, rfl⟩
theorem cB_set (l : List UInt8) (i : Nat) (c : UInt8) : (cB l).toArray.setIfInBounds i (.int .u8 (c.toNat : Int)) = (cB (l.set i c)).toArray := by simp [cB, byteV]
theorem cB_cell {w : World} {g : Nat} {t : TypeId} {l : List UInt8} (h : Blk w g t (cB l).toArray) {i : Nat} {c : UInt8} (hc : l[i]? = some c) : w.cell? ⟨g, i, none⟩ = some (.int .u8 (c.toNat : Int)) := h.at_ (by simp [cB, hc, byteV])
/-- Its name is bput: put of package page writes a number into bytes. -/
theorem bput_calls (l : List UInt8) (g o m cap : Nat) (N : Nat) (w : World) (bk : Blk w g 5 (cB l).toArray) (_hl : l.length ≤ 4096) (hm : o + m ≤ l.length) (hm8 : m ≤ 8) (_hN : N < 18446744073709551616) :
    Calls Tryz.prog 112 #[.slice (some ⟨g, o, none⟩) m cap, .int .u64 (N : Int)] w fun e w' => e = .returned (.tuple #[]) ∧ Blk w' g 5 (cB (spl l o (be m N))).toArray ∧ Kept (fun k => k = g) w w' := by
  go_enter Tryz.func112, Tryz.ntmps112
  go_wp2
  go_loopw [4, 7] (fun _ i wr => ∃ k : Nat, k ≤ m ∧ i = .int .i64 k ∧ Blk wr g 5 (cB (spl l o ((be m N).take k))).toArray ∧ Kept (fun k => k = g) w wr) (fun _ i _ => m - (intOf i).toNat)
  case atStart => exact ⟨0, by omega, rfl, by rw [List.take_zero, spl_nil]; exact bk, Kept.refl _ _⟩
  case round =>
    obtain ⟨k, hk, rfl, ow, kp⟩ := hrel
    by_cases hlt : k < m
    · have hbl := be_len m N
      have hgt := be_get m N k hlt
      have hlen : (spl l o ((be m N).take k)).length = l.length := spl_len _ _ _ (by simp [hbl]; omega)
      obtain ⟨c, hc⟩ : ∃ c, (spl l o ((be m N).take k))[o + k]? = some c := ⟨_, List.getElem?_eq_getElem (by rw [hlen]; omega)⟩
      have hcell := cB_cell ow hc
      have hz := ow.frozen (o + k)
      have HST : Hid (∀ u : Int, u = ((UInt8.ofNat (N / 256 ^ (m - 1 - k))).toNat : Int) → Blk (wr.setCell ⟨g, o + k, none⟩ (.int .u8 u)) g 5 (cB (spl l o ((be m N).take (k + 1)))).toArray) := by
        show ∀ u : Int, _ → _
        rintro u rfl
        have := ow.set_ (o + k) (.int .u8 ((UInt8.ofNat (N / 256 ^ (m - 1 - k))).toNat : Int))
        rw [cB_set, spl_step l o k (be m N) _ hgt (by rw [hbl]; exact hm)] at this
        exact this
      have hdec : decide ((k : Int) < (m : Int)) = true := by simp; omega
      clear hbl hgt hlen hc ow
      go_wp2
      go_roundw
      case rel => exact ⟨k + 1, by omega, by go_num, HST.out _ (shift_byte N m k), kp.setCell (.inl rfl) _⟩
      case measure => simp [intOf]; omega
    · obtain rfl : k = m := by omega
      have e : (be k N).take k = be k N := List.take_of_length_le (by rw [be_len]; exact Nat.le_refl _)
      rw [e] at ow
      have HO := Lib.hid ow
      clear ow e
      go_wp2
      go_end0
      exact ⟨rfl, HO.out, kp⟩
theorem u64_wrap (x : Int) : IntKind.u64.wrap x = x % 18446744073709551616 := by simp [IntKind.wrap, IntKind.signed, IntKind.bits]
theorem of_len (l : List UInt8) (n : Nat) (A : Option Addr) (cap : Nat) (w : World) (hT : Tab w) (hn : l.length = n) (hl : n ≤ 9223372036854775807) (hR : RB w A l) :
    Calls Tryz.prog 113 #[.slice A n cap] w fun e w' => e = .returned (.int .u32 ((crc l : Nat) : Int)) ∧ w = w' := by
  subst hn; exact of_calls l A cap w hT hl hR
theorem Kept.far {F G : Nat → Prop} {w a b : World} (h : Kept F w a) (k : Kept G a b) (hG : ∀ j, G j → F j ∨ w.heap.size ≤ j) : Kept F w b :=
  ⟨k.os.trans h.os, k.tape.trans h.tape, k.output.trans h.output, Nat.le_trans h.size k.size, fun i hi hF => (k.block i (Nat.lt_of_lt_of_le hi h.size) (fun hg => by
    rcases hG i hg with h | h
    · exact hF h
    · omega)).trans (h.block i hi hF)⟩
theorem Tab.far {F : Nat → Prop} {w w' : World} (hT : Tab w) (k : Kept F w w') (hF : ¬ F 2) : Tab w' := by
  intro x
  have h := hT x
  have hl : 2 < w.heap.size := World.block_lt_of_cell? w ⟨2, nib x, none⟩ h
  rw [World.cell?_of_block (w := w) (k.block _ hl hF)]
  exact h
theorem number_len (l : List UInt8) (n : Nat) (A : Option Addr) (cap : Nat) (w : World) (hR : RB w A l) (hn : l.length = n) (hl : n ≤ 8) :
    Calls Tryz.prog 161 #[.slice A n cap] w fun e w' => e = .returned (.int .u64 ((beN l : Nat) : Int)) ∧ w = w' := by
  subst hn; exact number_calls l A cap w hR hl
theorem plain_len (l : List UInt8) (n : Nat) (A : Option Addr) (cap : Nat) (w : World) (hR : RB w A l) (hn : l.length = n) (hl : n ≤ 9223372036854775807) :
    Calls Tryz.prog 127 #[.slice A n cap] w fun e w' => e = .returned (.bool (plainB l)) ∧ w = w' := by
  subst hn; exact plain_calls l A cap w hR hl
end Go.Proofs.YtendnkklbeiegaaGreatDoor
