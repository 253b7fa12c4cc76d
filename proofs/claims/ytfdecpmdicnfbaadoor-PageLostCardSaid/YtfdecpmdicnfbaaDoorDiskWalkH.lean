/-
  What Rot does to a disk in memory: a content made where there was none, a bit turned.
-/
import Derived.Test.YtfdecpmdicnfbaaDoorDiskWalkG
namespace Go.Proofs.YtfdecpmdicnfbaaDoor
open Go.RowKit DiskP

theorem Next.trans {w w1 w2 : World} {base : Nat} {y y1 : Lay} {S : Dsk} (d1 : y1.D = y.D) (k1 : Kept y.foot w w1) (f1 : ∀ k, y1.foot k → y.foot k ∨ w.heap.size ≤ k) (h : Next w1 base y1 S w2) : Next w base y S w2 := by
  obtain ⟨y2, h2, a2, d2, k2, f2⟩ := h
  refine ⟨y2, h2, a2, d2.trans d1, ⟨k2.os.trans k1.os, k2.tape.trans k1.tape, k2.output.trans k1.output, Nat.le_trans k1.size k2.size, fun k hk hF => ?_⟩, ?_⟩
  · refine (k2.block k (Nat.lt_of_lt_of_le hk k1.size) fun hf => ?_).trans (k1.block k hk hF)
    rcases f1 k hf with h | h
    · exact hF h
    · omega
  · intro k hk
    rcases f2 k hk with h | h
    · exact f1 k h
    · exact .inr (Nat.le_trans k1.size h)
/-- What is told of a sector that was never written. -/
theorem tp_get (y : Lay) {n : Nat} (hn : n < y.lp.length) : y.tp[n]? = some (((lastW y.wp n).map some).getD y.lp[n]) := by
  show (applyW y.lp (someW y.wp))[n]? = _
  rw [applyW_get _ _ n hn]
  unfold someW
  rw [lastW_map]
theorem tp_none (y : Lay) {n : Nat} (hn : n < y.lp.length) (h : y.tp[n]? = some none) : lastW y.wp n = none ∧ y.lp[n]? = some none := by
  rw [tp_get y hn] at h
  cases hl : lastW y.wp n with
  | some c => rw [hl] at h; simp at h
  | none => rw [hl] at h; simp at h; exact ⟨rfl, by rw [List.getElem?_eq_getElem hn, h]⟩
def freshed (y : Lay) (n c : Nat) (v : Value) : Lay :=
  { y with lp := y.lp.set n (some c), sect := fun k => if k = c then zeroS y.size else y.sect k, bv := fun k => if k = c then v else y.bv k }
theorem fresh_tp (y : Lay) {n c : Nat} {v : Value} (hn : n < y.lp.length) (h : y.tp[n]? = some none) : (freshed y n c v).tp = y.tp.set n (some c) := by
  obtain ⟨h1, h2⟩ := tp_none y hn h
  apply List.ext_getElem?
  intro i
  by_cases hi : i < y.lp.length
  · rw [tp_get (freshed y n c v) (by show i < (y.lp.set n (some c)).length; simpa using hi), List.getElem?_set, tp_get y hi]
    show some (((lastW y.wp i).map some).getD ((y.lp.set n (some c))[i]'(by simpa using hi))) = _
    by_cases e : n = i
    · subst e
      rw [h1]
      simp [tp_len, hi]
    · rw [if_neg e]
      simp [e]
  · rw [List.getElem?_eq_none (by rw [tp_len]; show (y.lp.set n (some c)).length ≤ i; simp; omega), List.getElem?_eq_none (by simp [tp_len]; omega)]
theorem fresh_ok {w w2 : World} {base : Nat} {y : Lay} {n c : Nat} {v : Value} (h : DiskOK w base y) (b2 : Below w.heap.size w w2)
    (hn : n < y.lp.length) (ht : y.tp[n]? = some none)
    (hc : Blk w2 c 86 #[v, .bool false, .bool false]) (hcw : w.heap.size ≤ c)
    (own1 : w2.ownsRow w.heap.size 5 1 v y.size (cB (List.replicate y.size 0))) :
    DiskOK ((w2.setCell ⟨y.T, n, none⟩ (.pointer (some ⟨c, 0, none⟩))).setCell ⟨y.L, n, none⟩ (.pointer (some ⟨c, 0, none⟩))) base (freshed y n c v) ∧
    (freshed y n c v).abs = y.abs ∧ Kept y.foot w ((w2.setCell ⟨y.T, n, none⟩ (.pointer (some ⟨c, 0, none⟩))).setCell ⟨y.L, n, none⟩ (.pointer (some ⟨c, 0, none⟩))) ∧
    ∀ k, (freshed y n c v).foot k → y.foot k ∨ w.heap.size ≤ k := by
  have h2 := h.below b2
  have hbw : base ≤ w.heap.size := Nat.le_trans h.bD (Nat.le_of_lt h.dk.lt)
  obtain ⟨hw, hl⟩ := tp_none y hn ht
  have keep : ∀ k, k ≠ y.T → k ≠ y.L → ((w2.setCell ⟨y.T, n, none⟩ (.pointer (some ⟨c, 0, none⟩))).setCell ⟨y.L, n, none⟩ (.pointer (some ⟨c, 0, none⟩))).heap[k]? = w2.heap[k]? := by
    intro k h1 h2
    rw [heap_setCell_other _ _ _ _ h2, heap_setCell_other _ _ _ _ h1]
  have nc : ∀ k, y.ids k → k ≠ c := fun k hk e => by have := (h.ck k hk).lt; omega
  have bvc : (freshed y n c v).bv c = v := if_pos rfl
  have bvn : ∀ k, k ≠ c → (freshed y n c v).bv k = y.bv k := fun k hne => if_neg hne
  have scc : (freshed y n c v).sect c = zeroS y.size := if_pos rfl
  have scn : ∀ k, k ≠ c → (freshed y n c v).sect k = y.sect k := fun k hne => if_neg hne
  have idk : ∀ k, (freshed y n c v).ids k → k = c ∨ (y.ids k ∧ k ≠ c) := by
    intro k hk
    rcases hk with hk | ⟨m, hk⟩
    · rcases List.mem_or_eq_of_mem_set hk with hk | hk
      · exact .inr ⟨.inl hk, nc k (.inl hk)⟩
      · injection hk with hk; exact .inl hk
    · exact .inr ⟨.inr ⟨m, hk⟩, nc k (.inr ⟨m, hk⟩)⟩
  have blkT : ∀ {k : Nat} {t : TypeId} {cs : Array Value}, Blk w2 k t cs → t ≠ 84 → k ≠ y.T ∧ k ≠ y.L := fun hb hne => ⟨blk_ne hb h2.tk hne, blk_ne hb h2.lk hne⟩
  have ownT : ∀ {k m size : Nat} {e : TypeId} {b' : Nat} {v : Value} {xs : List Value}, w2.ownsRow b' e size v m xs → v.ownBlock = some k → e ≠ 84 → k ≠ y.T ∧ k ≠ y.L := fun ho hk hne => ⟨own_ne ho hk h2.tk hne, own_ne ho hk h2.lk hne⟩
  have kb : ∀ {k : Nat} {t : TypeId} {cs : Array Value}, Blk w2 k t cs → t ≠ 84 → Blk ((w2.setCell ⟨y.T, n, none⟩ (.pointer (some ⟨c, 0, none⟩))).setCell ⟨y.L, n, none⟩ (.pointer (some ⟨c, 0, none⟩))) k t cs :=
    fun {k} _ _ hb hne => (keep k (blkT hb hne).1 (blkT hb hne).2).trans hb
  have ko : ∀ {m size : Nat} {e : TypeId} {b' : Nat} {v : Value} {xs : List Value}, w2.ownsRow b' e size v m xs → e ≠ 84 → ((w2.setCell ⟨y.T, n, none⟩ (.pointer (some ⟨c, 0, none⟩))).setCell ⟨y.L, n, none⟩ (.pointer (some ⟨c, 0, none⟩))).ownsRow b' e size v m xs :=
    fun ho hne => own_frame ho fun k hk => keep k (ownT ho hk hne).1 (ownT ho hk hne).2
  have setm : ∀ (l : List (Option Nat)), ((l.map ptrV).toArray).setIfInBounds n (.pointer (some ⟨c, 0, none⟩)) = ((l.set n (some c)).map ptrV).toArray := by
    intro l; simp [ptrV]
  have getm : ∀ (i k : Nat), (y.lp.set n (some c))[i]? = some (some k) → (i = n ∧ k = c) ∨ (y.lp[i]? = some (some k) ∧ k ≠ c) := by
    intro i k hi
    rw [List.getElem?_set] at hi
    by_cases e : n = i
    · rw [if_pos e, if_pos (by omega)] at hi
      injection hi with hi
      injection hi with hi
      exact .inl ⟨e.symm, hi.symm⟩
    · rw [if_neg e] at hi
      exact .inr ⟨hi, nc k (.inl (List.mem_of_getElem? hi))⟩
  refine ⟨?_, ?_, ?_, ?_⟩
  · exact {
      dk := by
        have : (freshed y n c v).dcells = y.dcells := by simp [Lay.dcells, freshed]
        rw [this]
        exact kb h2.dk (by decide)
      lk := by
        have := (h2.lk.far (p := ⟨y.T, n, none⟩) h.lt (.pointer (some ⟨c, 0, none⟩))).set_ n (.pointer (some ⟨c, 0, none⟩))
        rw [setm] at this
        exact this
      tk := by
        have := (h2.tk.set_ n (.pointer (some ⟨c, 0, none⟩))).far (p := ⟨y.L, n, none⟩) (fun e => h.lt e.symm) (.pointer (some ⟨c, 0, none⟩))
        rw [setm] at this
        rw [fresh_tp y hn ht]
        exact this
      wk := ko h2.wk (by decide)
      ck := fun k hk => by
        rcases idk k hk with rfl | ⟨hk, hne⟩
        · rw [bvc, scc]
          exact kb hc (by decide)
        · rw [bvn k hne, scn k hne]
          exact kb (h2.ck k hk) (by decide)
      bk := fun k hk => by
        rcases idk k hk with rfl | ⟨hk, hne⟩
        · rw [bvc, scc]
          exact ⟨by simp [freshed], own_mono (ko own1 (by decide)) hbw⟩
        · rw [bvn k hne, scn k hne]
          have hbk := h2.bk k hk
          cases hs : (y.sect k).bytes with
          | none => rw [hs] at hbk; exact hbk
          | some m =>
            rw [hs] at hbk
            exact ⟨hbk.1, ko hbk.2 (by decide)⟩
      bD := h.bD
      bL := h.bL
      bT := h.bT
      bc := fun k hk => by
        rcases idk k hk with rfl | ⟨hk, _⟩
        · omega
        · exact h.bc k hk
      n1 := fun i j k hi hj => by
        rcases getm i k hi with ⟨h1, h1'⟩ | ⟨h1, h1'⟩ <;> rcases getm j k hj with ⟨h3, h3'⟩ | ⟨h3, h3'⟩
        · omega
        · exact absurd h1' h3'
        · exact absurd h3' h1'
        · exact h.n1 i j k h1 h3
      n2 := h.n2
      n3 := fun k m hk hm => by
        rcases List.mem_or_eq_of_mem_set hk with hk | hk
        · exact h.n3 k m hk hm
        · injection hk with hk
          exact nc k (.inr ⟨m, hm⟩) hk
      nb := fun k k' j hk hk' hj hj' => by
        rcases idk k hk with rfl | ⟨hk1, hne⟩ <;> rcases idk k' hk' with rfl | ⟨hk1', hne'⟩
        · rfl
        · rw [bvc] at hj
          rw [bvn _ hne'] at hj'
          have h1 := (own_lt own1 hj).1
          have h2 := ((h.bk k' hk1').lt hj').2
          omega
        · rw [bvc] at hj'
          rw [bvn _ hne] at hj
          have h1 := (own_lt own1 hj').1
          have h2 := ((h.bk k hk1).lt hj).2
          omega
        · rw [bvn _ hne] at hj
          rw [bvn _ hne'] at hj'
          exact h.nb k k' j hk1 hk1' hj hj'
      lt := h.lt
      wr := fun m k hm => by
        have := h.wr m k hm
        show m < (y.lp.set n (some c)).length
        simpa using this
      s1 := h.s1
      s2 := h.s2
      l1 := by have := h.l1; show 1 ≤ (y.lp.set n (some c)).length; simpa using this
      l2 := by have := h.l2; show (y.lp.set n (some c)).length ≤ 65536; simpa using this }
  · show Dsk.mk _ _ _ _ = Dsk.mk _ _ _ _
    congr 1
    · apply List.ext_getElem?
      intro i
      show ((y.lp.set n (some c)).map (ptrS y.size (freshed y n c v).sect))[i]? = (y.lp.map (ptrS y.size y.sect))[i]?
      rw [List.getElem?_map, List.getElem?_map, List.getElem?_set]
      by_cases e : n = i
      · subst e
        rw [if_pos rfl, if_pos hn, hl]
        show some ((freshed y n c v).sect c) = some (zeroS y.size)
        rw [scc]
      · rw [if_neg e]
        cases ho : y.lp[i]? with
        | none => rfl
        | some o =>
          cases o with
          | none => rfl
          | some k => show some ((freshed y n c v).sect k) = some (y.sect k); rw [scn k (nc k (.inl (List.mem_of_getElem? ho)))]
    · show y.wp.map _ = y.wp.map _
      apply List.map_congr_left
      intro x hx
      simp only [Prod.mk.injEq, true_and]
      exact scn x.2 (nc x.2 (.inr ⟨x.1, hx⟩))
  · exact ((Kept.of_below b2 y.foot).setCell (.inl (.inr (.inr (.inl rfl)))) _).setCell (.inl (.inr (.inl rfl))) _
  · intro k hk
    rcases hk with rfl | rfl | rfl | hk | hk | ⟨k', hk', hj⟩
    · exact .inl (.inl rfl)
    · exact .inl (.inr (.inl rfl))
    · exact .inl (.inr (.inr (.inl rfl)))
    · exact .inl (.inr (.inr (.inr (.inl hk))))
    · rcases idk k hk with rfl | ⟨hk, _⟩
      · exact .inr hcw
      · exact .inl (.inr (.inr (.inr (.inr (.inl hk)))))
    · rcases idk k' hk' with rfl | ⟨hk', hne⟩
      · rw [bvc] at hj
        exact .inr (own_lt own1 hj).1
      · rw [bvn k' hne] at hj
        exact .inl (.inr (.inr (.inr (.inr (.inr ⟨k', hk', hj⟩)))))

/- ### A bit is turned -/
def turned (y : Lay) (c bit : Nat) : Lay := { y with sect := fun k => if k = c then (y.sect c).turn bit else y.sect k }
theorem turned_abs {w : World} {base : Nat} {y : Lay} {n c bit : Nat} (h : DiskOK w base y) (hn : n < y.lp.length) (ht : y.tp[n]? = some (some c)) : (turned y c bit).abs = y.abs.rotted n bit := by
  have scc : (turned y c bit).sect c = (y.sect c).turn bit := if_pos rfl
  have scn : ∀ k, k ≠ c → (turned y c bit).sect k = y.sect k := fun k hne => if_neg hne
  have e0 : lastIdx y.abs.wait n = lastIdx y.wp n := lastIdx_map y.sect y.wp n
  rw [tp_get y hn] at ht
  have hli := lastW_idx y.wp n
  unfold Dsk.rotted
  rw [e0]
  cases hx : lastIdx y.wp n with
  | some i =>
    rw [hx, Option.bind_some] at hli
    obtain ⟨k, hk⟩ := lastIdx_lt hx
    rw [hk] at hli
    rw [hli] at ht
    simp at ht
    subst ht
    show Dsk.mk _ _ _ _ = Dsk.mk _ _ _ _
    congr 1
    · show y.lp.map _ = y.lp.map _
      apply List.map_congr_left
      intro o ho
      cases o with
      | none => rfl
      | some j => exact scn j (fun e => h.n3 j n ho (by rw [e]; exact List.mem_of_getElem? hk))
    · apply List.ext_getElem?
      intro j
      show (y.wp.map fun x => (x.1, (turned y k bit).sect x.2))[j]? = ((y.wp.map fun x => (x.1, y.sect x.2)).modify i fun x => (x.1, x.2.turn bit))[j]?
      rw [List.getElem?_modify, List.getElem?_map, List.getElem?_map]
      by_cases e : i = j
      · subst e
        rw [hk]
        simp [scc]
      · cases hj : y.wp[j]? with
        | none => rfl
        | some x =>
          simp [e]
          refine scn x.2 fun e2 => e (h.n2 i j n x.1 k hk (by rw [hj, ← e2]))
  | none =>
    rw [hx, Option.bind_none] at hli
    rw [hli] at ht
    simp at ht
    have hlp : y.lp[n]? = some (some c) := by rw [List.getElem?_eq_getElem hn, ht]
    show Dsk.mk _ _ _ _ = Dsk.mk _ _ _ _
    congr 1
    · apply List.ext_getElem?
      intro j
      show (y.lp.map (ptrS y.size (turned y c bit).sect))[j]? = ((y.lp.map (ptrS y.size y.sect)).modify n (Sect.turn · bit))[j]?
      rw [List.getElem?_modify, List.getElem?_map, List.getElem?_map]
      by_cases e : n = j
      · subst e
        rw [hlp]
        simp [ptrS, scc]
      · cases hj : y.lp[j]? with
        | none => rfl
        | some o =>
          cases o with
          | none => simp [ptrS, e]
          | some k =>
            simp [ptrS, e]
            exact scn k fun e2 => e (h.n1 n j c hlp (by rw [hj, e2]))
    · show y.wp.map _ = y.wp.map _
      apply List.map_congr_left
      intro x hx
      simp only [Prod.mk.injEq, true_and]
      exact scn x.2 fun e => h.n3 c x.1 (List.mem_of_getElem? hlp) (by rw [← e]; exact hx)
theorem turn_ok {w : World} {base : Nat} {y : Lay} {n c bit g cap : Nat} {l : List UInt8} (h : DiskOK w base y) (hn : n < y.lp.length) (ht : y.tp[n]? = some (some c))
    (hs : (y.sect c).bytes = some l) (hv : y.bv c = .slice (some ⟨g, 0, none⟩) y.size cap) (x : UInt8) (hx : (turnBit l bit) = l.set (bit / 8) x) :
    Next w base y (y.abs.rotted n bit) ((w.setCell ⟨c, 2, none⟩ (.bool true)).setCell ⟨g, bit / 8, none⟩ (byteV x)) := by
  have hc : y.ids c := tp_ids y (List.mem_of_getElem? ht)
  have hck := h.ck c hc
  have hbk := h.bk c hc
  rw [hs] at hck hbk
  obtain ⟨hl, hown⟩ := hbk
  have hg : (y.bv c).ownBlock = some g := by rw [hv]; rfl
  have scc : (turned y c bit).sect c = ⟨some (l.set (bit / 8) x), true⟩ := by
    have : (turned y c bit).sect c = (y.sect c).turn bit := if_pos rfl
    rw [this]
    unfold Sect.turn
    rw [hs, Option.map_some, hx]
  have scn : ∀ k, k ≠ c → (turned y c bit).sect k = y.sect k := fun k hne => if_neg hne
  have keep : ∀ k, k ≠ c → k ≠ g → ((w.setCell ⟨c, 2, none⟩ (.bool true)).setCell ⟨g, bit / 8, none⟩ (byteV x)).heap[k]? = w.heap[k]? := by
    intro k h1 h2
    rw [heap_setCell_other _ _ _ _ h2, heap_setCell_other _ _ _ _ h1]
  have kb : ∀ {k : Nat} {t : TypeId} {cs : Array Value}, Blk w k t cs → t ≠ 86 → t ≠ 5 → Blk ((w.setCell ⟨c, 2, none⟩ (.bool true)).setCell ⟨g, bit / 8, none⟩ (byteV x)) k t cs :=
    fun {k} _ _ hb h1 h2 => (keep k (blk_ne hb hck h1) (fun e => own_ne hown hg hb (fun e => h2 e.symm) e.symm)).trans hb
  refine ⟨turned y c bit, ?_, turned_abs h hn ht, rfl, ?_, fun k hk => .inl hk⟩
  · exact {
      dk := kb h.dk (by decide) (by decide)
      lk := kb h.lk (by decide) (by decide)
      tk := kb h.tk (by decide) (by decide)
      wk := own_frame h.wk fun k hk => keep k (own_ne h.wk hk hck (by decide)) (own_ne2 h.wk hk hown hg (by decide))
      ck := fun k hk => by
        by_cases e : k = c
        · subst e
          rw [scc]
          exact (hck.set_ 2 (.bool true)).far (p := ⟨g, bit / 8, none⟩) (fun e => own_ne hown hg hck (by decide) e.symm) _
        · rw [scn k e]
          have hk' := h.ck k hk
          exact (keep k e (fun e => own_ne hown hg hk' (by decide) e.symm)).trans hk'
      bk := fun k hk => by
        by_cases e : k = c
        · subst e
          rw [scc]
          refine ⟨by rw [List.length_set]; exact hl, ?_⟩
          have h1 : (w.setCell ⟨k, 2, none⟩ (.bool true)).ownsRow base 5 1 (y.bv k) y.size (cB l) := own_frame hown fun j hj => heap_setCell_other _ _ _ _ (own_ne hown hj hck (by decide))
          show ((w.setCell ⟨k, 2, none⟩ (.bool true)).setCell ⟨g, bit / 8, none⟩ (byteV x)).ownsRow base 5 1 (y.bv k) y.size _
          rw [hv] at h1 ⊢
          have h2 := (h1.stored (bit / 8) (byteV x)).1
          rw [show (cB l).set (bit / 8) (byteV x) = cB (l.set (bit / 8) x) by simp [cB]] at h2
          exact h2
        · rw [scn k e]
          have hbk := h.bk k hk
          cases hs' : (y.sect k).bytes with
          | none => rw [hs'] at hbk; exact hbk
          | some m =>
            rw [hs'] at hbk
            exact ⟨hbk.1, own_frame hbk.2 fun j hj => keep j (own_ne hbk.2 hj hck (by decide)) (fun e2 => e (h.nb k c g hk hc (by rw [← e2]; exact hj) hg))⟩
      bD := h.bD
      bL := h.bL
      bT := h.bT
      bc := h.bc
      n1 := h.n1
      n2 := h.n2
      n3 := h.n3
      nb := h.nb
      lt := h.lt
      wr := h.wr
      s1 := h.s1
      s2 := h.s2
      l1 := h.l1
      l2 := h.l2 }
  · exact ((Kept.refl _ _).setCell (.inl (.inr (.inr (.inr (.inr (.inl hc)))))) _).setCell (.inl (.inr (.inr (.inr (.inr (.inr ⟨c, hc, hg⟩)))))) _
end Go.Proofs.YtfdecpmdicnfbaaDoor
