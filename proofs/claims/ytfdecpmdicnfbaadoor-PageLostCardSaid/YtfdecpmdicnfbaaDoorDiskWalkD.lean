/-
  The walk of package disk's Write.
-/
import Derived.Test.YtfdecpmdicnfbaaDoorDiskWalkC
namespace Go.Proofs.YtfdecpmdicnfbaaDoor
open Go.RowKit DiskP

theorem own_mono {w : World} {base b' : Nat} {e : TypeId} {size n : Nat} {v : Value} {xs : List Value} (h : w.ownsRow base e size v n xs) (hb : b' ≤ base) : w.ownsRow b' e size v n xs := by
  refine ⟨h.1, ?_⟩
  rcases h.2 with h0 | ⟨g, cap, cur, rfl, h1, h2⟩
  · exact .inl h0
  · exact .inr ⟨g, cap, cur, rfl, Nat.le_trans hb h1, h2⟩
/-- Blocks of other types are other blocks. -/
theorem blk_ne {w : World} {g g' : Nat} {t t' : TypeId} {cs cs' : Array Value} (h : Blk w g t cs) (h' : Blk w g' t' cs') (hne : t ≠ t') : g ≠ g' := by
  rintro rfl
  unfold Blk at h h'
  rw [h] at h'
  injection h' with h'
  injection h' with _ ht
  exact hne ht
theorem own_ne {w : World} {base g : Nat} {e t : TypeId} {size n k : Nat} {v : Value} {xs : List Value} {cs : Array Value} (h : w.ownsRow base e size v n xs) (hk : v.ownBlock = some k) (hg : Blk w g t cs) (hne : e ≠ t) : k ≠ g := by
  rcases h.2 with ⟨rfl, _⟩ | ⟨g', cap, cur, rfl, _, hh, _⟩
  · cases hk
  · injection hk with hk
    subst hk
    exact blk_ne (t := e) hh hg hne
theorem own_ne2 {w : World} {base base' : Nat} {e e' : TypeId} {size n k size' n' k' : Nat} {v v' : Value} {xs xs' : List Value} (h : w.ownsRow base e size v n xs) (hk : v.ownBlock = some k) (h' : w.ownsRow base' e' size' v' n' xs') (hk' : v'.ownBlock = some k') (hne : e ≠ e') : k ≠ k' := by
  rcases h'.2 with ⟨rfl, _⟩ | ⟨g', cap, cur, rfl, _, hh, _⟩
  · cases hk'
  · injection hk' with hk'
    subst hk'
    exact own_ne h hk (g := g') (t := e') hh hne
/-- A disk goes on as another; nothing else that was there has turned. -/
def Next (w : World) (base : Nat) (y : Lay) (S : Dsk) (w' : World) : Prop :=
  ∃ y', DiskOK w' base y' ∧ y'.abs = S ∧ y'.D = y.D ∧ Kept y.foot w w' ∧ ∀ k, y'.foot k → y.foot k ∨ w.heap.size ≤ k
theorem Next.same {w : World} {base : Nat} {y : Lay} (h : DiskOK w base y) : Next w base y y.abs w := ⟨y, h, rfl, rfl, Kept.refl _ _, fun _ hk => .inl hk⟩
theorem Next.same_below {w w' : World} {base : Nat} {y : Lay} (h : DiskOK w base y) (hb : Below w.heap.size w w') : Next w base y y.abs w' := ⟨y, h.below hb, rfl, rfl, Kept.of_below hb _, fun _ hk => .inl hk⟩

theorem info_wr : (Tryd.prog.info? 88).map (fun i => (i.zero, i.size, i.bytes)) = some (some (.agg #[.int .i64 0, .pointer none]), 2, 16) := by kernel_rfl
theorem el_wr : El Tryd.prog 79 88 (.agg #[.int .i64 0, .pointer none]) 2 16 := ⟨info_parts info_wr, Tryd.underlying79, rfl, by decide⟩

def wrote (y : Lay) (n c : Nat) (v1 v2 : Value) (l : List UInt8) : Lay :=
  { y with wp := y.wp ++ [(n, c)], wv := v2, sect := fun k => if k = c then ⟨some l, false⟩ else y.sect k, bv := fun k => if k = c then v1 else y.bv k }
theorem wrote_ids {y : Lay} {n c k : Nat} {v1 v2 : Value} {l : List UInt8} : (wrote y n c v1 v2 l).ids k ↔ y.ids k ∨ k = c := by
  simp only [Lay.ids, wrote]
  constructor
  · rintro (h | ⟨m, h⟩)
    · exact .inl (.inl h)
    · rcases List.mem_append.1 h with h | h
      · exact .inl (.inr ⟨m, h⟩)
      · simp at h; exact .inr h.2
  · rintro ((h | ⟨m, h⟩) | rfl)
    · exact .inl h
    · exact .inr ⟨m, by simp [h]⟩
    · exact .inr ⟨n, by simp⟩
theorem wrote_tp (y : Lay) (n c : Nat) (v1 v2 : Value) (l : List UInt8) : (wrote y n c v1 v2 l).tp = y.tp.set n (some c) := by
  show applyW y.lp (someW (y.wp ++ [(n, c)])) = (applyW y.lp (someW y.wp)).set n (some c)
  have : someW (y.wp ++ [(n, c)]) = someW y.wp ++ [(n, some c)] := by simp [someW]
  rw [this, toldW_snoc]

theorem write_ok {w w3 w4 : World} {base : Nat} {y : Lay} {n c : Nat} {v1 v2 : Value} {l : List UInt8} (h : DiskOK w base y) (b3 : Below w.heap.size w w3)
    (hn : n < y.lp.length) (hl : l.length = y.size)
    (hc : Blk w3 c 86 #[v1, .bool false, .bool false]) (hcw : w.heap.size ≤ c)
    (own1 : w3.ownsRow w.heap.size 5 1 v1 y.size (cB l))
    (own4 : w4.ownsRow base 88 2 v2 (y.wp.length + 1) (wcells y.wp ++ [.int .i64 (n : Int), .pointer (some ⟨c, 0, none⟩)]))
    (gr : w3.grownBy w4 y.wv.ownBlock) (hv2 : v2.ownBlock = y.wv.ownBlock ∨ v2.ownBlock = some w3.heap.size) :
    Next w base y (y.abs.write n l) ((w4.setCell ⟨y.D, 3, none⟩ v2).setCell ⟨y.T, n, none⟩ (.pointer (some ⟨c, 0, none⟩))) := by
  have h3 := h.below b3
  have hbw : base ≤ w.heap.size := Nat.le_trans h.bD (Nat.le_of_lt h.dk.lt)
  -- blocks that neither the append nor the stores reach
  have keep : ∀ k, k < w3.heap.size → some k ≠ y.wv.ownBlock → k ≠ y.D → k ≠ y.T → ((w4.setCell ⟨y.D, 3, none⟩ v2).setCell ⟨y.T, n, none⟩ (.pointer (some ⟨c, 0, none⟩))).heap[k]? = w3.heap[k]? := by
    intro k hk h1 h2 h4
    rw [heap_setCell_other _ _ _ _ h4, heap_setCell_other _ _ _ _ h2]
    exact gr.block k hk h1
  have nw : ∀ {k : Nat} {t : TypeId} {cs : Array Value}, Blk w3 k t cs → t ≠ 88 → some k ≠ y.wv.ownBlock := by
    intro k t cs hb ht e
    exact own_ne h3.wk e.symm hb (fun e => ht e.symm) rfl
  have nwo : ∀ {k m size : Nat} {e : TypeId} {b' : Nat} {v : Value} {xs : List Value}, w3.ownsRow b' e size v m xs → v.ownBlock = some k → e ≠ 88 → some k ≠ y.wv.ownBlock := by
    intro k m size e b' v xs ho hk he e'
    exact own_ne2 ho hk h3.wk e'.symm he rfl
  have hD4 : Blk w4 y.D 81 y.dcells := (gr.block y.D h3.dk.lt (nw h3.dk (by decide))).trans h3.dk
  have hT4 : Blk w4 y.T 84 (y.tp.map ptrV).toArray := (gr.block y.T h3.tk.lt (nw h3.tk (by decide))).trans h3.tk
  have hDT : y.D ≠ y.T := blk_ne h3.dk h3.tk (by decide)
  have nc : ∀ k, y.ids k → k ≠ c := fun k hk e => by have := (h.ck k hk).lt; omega
  have idk : ∀ k, (wrote y n c v1 v2 l).ids k → k = c ∨ (y.ids k ∧ k ≠ c) := by
    intro k hk
    rcases wrote_ids.1 hk with hk | rfl
    · exact .inr ⟨hk, nc k hk⟩
    · exact .inl rfl
  have v2lt : ∀ k, v2.ownBlock = some k → k ≠ y.D ∧ k ≠ y.T := by
    intro k hk
    exact ⟨own_ne own4 hk hD4 (by decide), own_ne own4 hk hT4 (by decide)⟩
  refine ⟨wrote y n c v1 v2 l, ?_, ?_, rfl, ?_, ?_⟩
  · exact {
      dk := by
        refine Blk.far (p := ⟨y.T, n, none⟩) ?_ (by exact hDT) _
        have := hD4.set_ 3 v2
        exact this
      lk := (keep y.L h3.lk.lt (nw h3.lk (by decide)) (fun e => blk_ne h3.lk h3.dk (by decide) e) h.lt).trans h3.lk
      tk := by
        have := (hT4.far (p := ⟨y.D, 3, none⟩) hDT.symm v2).set_ n (.pointer (some ⟨c, 0, none⟩))
        rw [wrote_tp]
        have e : ((y.tp.map ptrV).toArray).setIfInBounds n (.pointer (some ⟨c, 0, none⟩)) = ((y.tp.set n (some c)).map ptrV).toArray := by
          simp [ptrV]
        rw [e] at this
        exact this
      wk := by
        have e : wcells (wrote y n c v1 v2 l).wp = wcells y.wp ++ [.int .i64 (n : Int), .pointer (some ⟨c, 0, none⟩)] := by simp [wcells, wrote]
        have el : (wrote y n c v1 v2 l).wp.length = y.wp.length + 1 := by simp [wrote]
        rw [e, el]
        refine own_frame own4 fun k hk => ?_
        rw [heap_setCell_other _ _ _ _ (v2lt k hk).2, heap_setCell_other _ _ _ _ (v2lt k hk).1]
      ck := fun k hk => by
        rcases idk k hk with rfl | ⟨hk, hne⟩
        · have e : (wrote y n k v1 v2 l).bv k = v1 := if_pos rfl
          have e2 : (wrote y n k v1 v2 l).sect k = ⟨some l, false⟩ := if_pos rfl
          rw [e, e2]
          exact (keep k hc.lt (nw hc (by decide)) (fun e => blk_ne hc h3.dk (by decide) e) (fun e => blk_ne hc h3.tk (by decide) e)).trans hc
        · have e : (wrote y n c v1 v2 l).bv k = y.bv k := if_neg hne
          have e2 : (wrote y n c v1 v2 l).sect k = y.sect k := if_neg hne
          rw [e, e2]
          have hck := h3.ck k hk
          exact (keep k hck.lt (nw hck (by decide)) (fun e => blk_ne hck h3.dk (by decide) e) (fun e => blk_ne hck h3.tk (by decide) e)).trans hck
      bk := fun k hk => by
        rcases idk k hk with rfl | ⟨hk, hne⟩
        · have e : (wrote y n k v1 v2 l).bv k = v1 := if_pos rfl
          have e2 : (wrote y n k v1 v2 l).sect k = ⟨some l, false⟩ := if_pos rfl
          rw [e, e2]
          exact ⟨hl, own_mono (own_frame own1 fun j hj => keep j (own_lt own1 hj).2 (nwo own1 hj (by decide)) (own_ne own1 hj h3.dk (by decide)) (own_ne own1 hj h3.tk (by decide))) hbw⟩
        · have e : (wrote y n c v1 v2 l).bv k = y.bv k := if_neg hne
          have e2 : (wrote y n c v1 v2 l).sect k = y.sect k := if_neg hne
          rw [e, e2]
          have hbk := h3.bk k hk
          cases hs : (y.sect k).bytes with
          | none => rw [hs] at hbk; exact hbk
          | some m =>
            rw [hs] at hbk
            exact ⟨hbk.1, own_frame hbk.2 fun j hj => keep j (own_lt hbk.2 hj).2 (nwo hbk.2 hj (by decide)) (own_ne hbk.2 hj h3.dk (by decide)) (own_ne hbk.2 hj h3.tk (by decide))⟩
      bD := h.bD
      bL := h.bL
      bT := h.bT
      bc := fun k hk => by
        rcases idk k hk with rfl | ⟨hk, _⟩
        · omega
        · exact h.bc k hk
      n1 := h.n1
      n2 := fun i j n' m k hi hj => by
        simp only [wrote] at hi hj
        have low : ∀ (i n' : Nat), (y.wp ++ [(n, c)])[i]? = some (n', k) → (i < y.wp.length ∧ y.wp[i]? = some (n', k)) ∨ (i = y.wp.length ∧ k = c) := by
          intro i n' hi
          rcases Nat.lt_or_ge i y.wp.length with hlt | hge
          · rw [List.getElem?_append_left hlt] at hi
            exact .inl ⟨hlt, hi⟩
          · rw [List.getElem?_append_right hge] at hi
            have : i - y.wp.length = 0 := by
              rcases Nat.eq_zero_or_pos (i - y.wp.length) with h0 | h0
              · exact h0
              · rw [List.getElem?_eq_none (by simp; omega)] at hi; cases hi
            rw [this] at hi
            simp at hi
            exact .inr ⟨by omega, hi.2.symm⟩
        have ne : ∀ (i n' : Nat), y.wp[i]? = some (n', k) → k ≠ c := fun i n' hi => nc k (.inr ⟨n', List.mem_of_getElem? hi⟩)
        rcases low i n' hi with ⟨_, hi⟩ | ⟨hi, hk⟩ <;> rcases low j m hj with ⟨_, hj⟩ | ⟨hj, hk'⟩
        · exact h.n2 i j n' m k hi hj
        · exact absurd hk' (ne _ _ hi)
        · exact absurd hk (ne _ _ hj)
        · omega
      n3 := fun k m hk hm => by
        simp only [wrote] at hk hm
        rcases List.mem_append.1 hm with hm | hm
        · exact h.n3 k m hk hm
        · simp at hm
          exact nc k (.inl hk) hm.2
      nb := fun k k' j hk hk' hj hj' => by
        have bvc : (wrote y n c v1 v2 l).bv c = v1 := if_pos rfl
        have bvn : ∀ k, k ≠ c → (wrote y n c v1 v2 l).bv k = y.bv k := fun k hne => if_neg hne
        rcases idk k hk with rfl | ⟨hk1, hne⟩ <;> rcases idk k' hk' with rfl | ⟨hk1', hne'⟩
        · rfl
        · rw [bvc] at hj
          rw [bvn _ hne'] at hj'
          have h1 := (own_lt own1 hj).1
          have h2 := ((h.bk k' hk1').lt hj').2
          omega
        · rw [bvc] at hj'
          rw [bvn _ hne] at hj
          have h1 := (own_lt own1 hj').1
          have h2 := ((h.bk k hk1).lt hj).2
          omega
        · rw [bvn _ hne] at hj
          rw [bvn _ hne'] at hj'
          exact h.nb k k' j hk1 hk1' hj hj'
      lt := h.lt
      wr := fun m k hm => by
        simp only [wrote] at hm
        rcases List.mem_append.1 hm with hm | hm
        · exact h.wr m k hm
        · simp at hm
          show m < y.lp.length
          omega
      s1 := h.s1
      s2 := h.s2
      l1 := h.l1
      l2 := h.l2 }
  · have hsec : ∀ k, y.ids k → (wrote y n c v1 v2 l).sect k = y.sect k := fun k hk => if_neg (nc k hk)
    have hsc : (wrote y n c v1 v2 l).sect c = ⟨some l, false⟩ := if_pos rfl
    show Dsk.mk _ _ _ _ = Dsk.mk _ _ _ _
    congr 1
    · apply List.map_congr_left
      intro o ho
      cases o with
      | none => rfl
      | some k => exact hsec k (.inl ho)
    · show (y.wp ++ [(n, c)]).map _ = (y.wp.map _) ++ [_]
      rw [List.map_append]
      congr 1
      · apply List.map_congr_left
        intro x hx
        simp only [Prod.mk.injEq, true_and]
        exact hsec x.2 (.inr ⟨x.1, hx⟩)
      · simp [hsc]
  · exact ((((Kept.of_below b3 y.foot).grown gr (fun k hk => .inl (.inr (.inr (.inr (.inl hk)))))).setCell (.inl (.inl rfl)) _).setCell (.inl (.inr (.inr (.inl rfl)))) _)
  · intro k hk
    have hsz := b3.size
    rcases hk with rfl | rfl | rfl | hk | hk | ⟨k', hk', hj⟩
    · exact .inl (.inl rfl)
    · exact .inl (.inr (.inl rfl))
    · exact .inl (.inr (.inr (.inl rfl)))
    · have hk2 : v2.ownBlock = some k := hk
      rcases hv2 with e | e
      · exact .inl (.inr (.inr (.inr (.inl (by rw [← e]; exact hk2)))))
      · rw [e] at hk2; injection hk2 with hk2; right; omega
    · rcases idk k hk with rfl | ⟨hk, _⟩
      · exact .inr hcw
      · exact .inl (.inr (.inr (.inr (.inr (.inl hk)))))
    · rcases idk k' hk' with rfl | ⟨hk', hne⟩
      · have e : (wrote y n k' v1 v2 l).bv k' = v1 := if_pos rfl
        rw [e] at hj
        exact .inr (own_lt own1 hj).1
      · have e : (wrote y n c v1 v2 l).bv k' = y.bv k' := if_neg hne
        rw [e] at hj
        exact .inl (.inr (.inr (.inr (.inr (.inr ⟨k', hk', hj⟩)))))
end Go.Proofs.YtfdecpmdicnfbaaDoor
