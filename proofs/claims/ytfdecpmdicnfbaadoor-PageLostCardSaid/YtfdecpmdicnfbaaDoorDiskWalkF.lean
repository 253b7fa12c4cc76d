/-
  The walk of package disk's Flush.
-/
import Derived.Test.YtfdecpmdicnfbaaDoorDiskWalkE
namespace Go.Proofs.YtfdecpmdicnfbaaDoor
open Go.RowKit DiskP

theorem wcells_len (wp : List (Nat × Nat)) : (wcells wp).length = wp.length * 2 := by
  induction wp with
  | nil => rfl
  | cons x wp ih => show (_ ++ wcells wp).length = _; simp [ih]; omega
theorem wcells_get (wp : List (Nat × Nat)) (i : Nat) (x : Nat × Nat) (h : wp[i]? = some x) : (wcells wp)[i * 2]? = some (.int .i64 (x.1 : Int)) ∧ (wcells wp)[i * 2 + 1]? = some (.pointer (some ⟨x.2, 0, none⟩)) := by
  induction wp generalizing i with
  | nil => simp at h
  | cons z wp ih =>
    show ([.int .i64 (z.1 : Int), .pointer (some ⟨z.2, 0, none⟩)] ++ wcells wp)[i * 2]? = _ ∧ ([.int .i64 (z.1 : Int), .pointer (some ⟨z.2, 0, none⟩)] ++ wcells wp)[i * 2 + 1]? = _
    cases i with
    | zero => simp at h; subst h; simp
    | succ i =>
      have := ih i (by simpa using h)
      rw [show (i + 1) * 2 = i * 2 + 1 + 1 by omega]
      simpa using this
/-- The cells of a write that waits. -/
theorem DiskOK.wcell {w : World} {base : Nat} {y : Lay} (h : DiskOK w base y) {i : Nat} (hi : i < y.wp.length) : ∃ g cap, y.wv = .slice (some ⟨g, 0, none⟩) y.wp.length cap ∧ g < w.heap.size ∧
    w.cell? ⟨g, i * 2, none⟩ = some (.int .i64 ((y.wp[i]).1 : Int)) ∧ w.cell? ⟨g, i * 2 + 1, none⟩ = some (.pointer (some ⟨(y.wp[i]).2, 0, none⟩)) := by
  have hk := h.wk
  obtain ⟨A, c, hv, _, _⟩ := own_form hk
  rcases hk.2 with ⟨_, h0⟩ | ⟨g, cap, cur, hv', _, hg, _⟩
  · omega
  · have := wcells_get y.wp i y.wp[i] (List.getElem?_eq_getElem hi)
    rw [hv'] at hk
    refine ⟨g, cap, hv', lt_of_block hg, ?_, ?_⟩
    · rw [hk.cellAt _ (by omega)]; exact this.1
    · rw [hk.cellAt _ (by omega)]; exact this.2

theorem flush_off (y : Lay) (w : World) (base : Nat) (h : DiskOK w base y) (ho : y.off = true) :
    Calls Tryd.prog 23 #[.pointer (some ⟨y.D, 0, none⟩)] w (RetErr w base y 10 y.abs) := by
  have c4 := h.c4
  rw [ho] at c4
  go_enter Tryd.func23, Tryd.ntmps23
  go_wp2
  go_ret
  exact ⟨rfl, Next.same h⟩

/-- Where only the row of what lasts has turned. -/
structure Flushing (w : World) (base : Nat) (y : Lay) (k : Nat) (wr : World) : Prop where
  kept : Kept (fun j => j = y.L) w wr
  row : Blk wr y.L 84 ((applyW y.lp (someW (y.wp.take k))).map ptrV).toArray
theorem Flushing.other {w wr : World} {base : Nat} {y : Lay} {k : Nat} (_h : DiskOK w base y) (f : Flushing w base y k wr) {g : Nat} {t : TypeId} {cs : Array Value} (hb : Blk w g t cs) (ht : g ≠ y.L) : Blk wr g t cs :=
  (f.kept.block g hb.lt ht).trans hb
def flushed (y : Lay) : Lay := { y with lp := y.tp, wp := [], wv := .slice none 0 0 }
theorem flushed_ids {y : Lay} {c : Nat} (h : (flushed y).ids c) : y.ids c := by
  rcases h with h | ⟨n, h⟩
  · exact tp_ids y h
  · simp [flushed] at h
theorem tp_home {w : World} {base : Nat} {y : Lay} (h : DiskOK w base y) {i j c : Nat} (hi : y.tp[i]? = some (some c)) (hj : y.tp[j]? = some (some c)) : i = j := by
  have key : ∀ i, y.tp[i]? = some (some c) → (y.lp[i]? = some (some c)) ∨ (i, c) ∈ y.wp := by
    intro i hi
    have hlt : i < y.lp.length := by
      have := (List.getElem?_eq_some_iff.1 hi).1
      rwa [tp_len] at this
    have e := applyW_get y.lp (someW y.wp) i hlt
    have e2 : y.tp[i]? = some ((lastW (someW y.wp) i).getD y.lp[i]) := e
    rw [hi] at e2
    injection e2 with e2
    cases hl : lastW (someW y.wp) i with
    | none =>
      rw [hl] at e2
      left
      rw [List.getElem?_eq_getElem hlt]
      exact congrArg some e2.symm
    | some o =>
      rw [hl] at e2
      simp only [Option.getD_some] at e2
      subst e2
      rw [lastW_idx] at hl
      cases hx : lastIdx (someW y.wp) i with
      | none => rw [hx] at hl; cases hl
      | some m =>
        rw [hx] at hl
        obtain ⟨z, hz⟩ := lastIdx_lt hx
        simp only [Option.bind_some, hz, Option.map_some] at hl
        injection hl with hl
        subst hl
        have := List.mem_of_getElem? hz
        simp only [someW, List.mem_map] at this
        obtain ⟨x, hx, he⟩ := this
        injection he with h1 h2
        injection h2 with h2
        right
        rw [← h1, ← h2]
        exact hx
  rcases key i hi with hi | hi <;> rcases key j hj with hj | hj
  · exact h.n1 i j c hi hj
  · exact (h.n3 c j (List.mem_of_getElem? hi) hj).elim
  · exact (h.n3 c i (List.mem_of_getElem? hj) hi).elim
  · obtain ⟨a, ha⟩ := List.getElem?_of_mem hi
    obtain ⟨b, hb⟩ := List.getElem?_of_mem hj
    have := h.n2 a b i j c ha hb
    subst this
    rw [ha] at hb
    injection hb with hb
    injection hb with hb _
theorem flush_ok {w wr : World} {base : Nat} {y : Lay} (h : DiskOK w base y) (_ho : y.off = false) (f : Flushing w base y y.wp.length wr) :
    Next w base y y.abs.flush (wr.setCell ⟨y.D, 3, none⟩ (.slice none 0 0)) := by
  have row : Blk wr y.L 84 (y.tp.map ptrV).toArray := by
    have := f.row
    rw [List.take_length] at this
    exact this
  have hLD : y.L ≠ y.D := blk_ne h.lk h.dk (by decide)
  have keep : ∀ k, k < w.heap.size → k ≠ y.L → k ≠ y.D → (wr.setCell ⟨y.D, 3, none⟩ (.slice none 0 0)).heap[k]? = w.heap[k]? := by
    intro k hk h1 h2
    rw [heap_setCell_other _ _ _ _ h2]
    exact f.kept.block k hk h1
  have hD := f.other h h.dk hLD.symm
  refine ⟨flushed y, ?_, ?_, rfl, (f.kept.mono (fun k _ hk => .inr (.inl hk))).setCell (.inl (.inl rfl)) _, ?_⟩
  · exact {
      dk := by
        have := hD.set_ 3 (.slice none 0 0)
        have e : (flushed y).dcells = y.dcells.setIfInBounds 3 (.slice none 0 0) := by simp [flushed, Lay.dcells, tp_len]
        rw [e]
        exact this
      lk := row.far (p := ⟨y.D, 3, none⟩) hLD _
      tk := (keep y.T h.tk.lt (fun e => h.lt e.symm) (blk_ne h.tk h.dk (by decide))).trans h.tk
      wk := World.ownsRow_nil _ _ _ _
      ck := fun c hc => by
        have hck := h.ck c (flushed_ids hc)
        exact (keep c hck.lt (blk_ne hck h.lk (by decide)) (blk_ne hck h.dk (by decide))).trans hck
      bk := fun c hc => by
        have hbk := h.bk c (flushed_ids hc)
        show BytesOK _ _ y.size (y.bv c) (y.sect c).bytes
        cases hs : (y.sect c).bytes with
        | none => rw [hs] at hbk; exact hbk
        | some m =>
          rw [hs] at hbk
          exact ⟨hbk.1, own_frame hbk.2 fun j hj => keep j (own_lt hbk.2 hj).2 (own_ne hbk.2 hj h.lk (by decide)) (own_ne hbk.2 hj h.dk (by decide))⟩
      bD := h.bD
      bL := h.bL
      bT := h.bT
      bc := fun c hc => h.bc c (flushed_ids hc)
      n1 := fun i j c hi hj => tp_home h hi hj
      n2 := fun i j n m c hi _ => by simp [flushed] at hi
      n3 := fun c n _ hn => by simp [flushed] at hn
      nb := fun c c' k hc hc' => h.nb c c' k (flushed_ids hc) (flushed_ids hc')
      lt := h.lt
      wr := fun n c hn => by simp [flushed] at hn
      s1 := h.s1
      s2 := h.s2
      l1 := by show 1 ≤ y.tp.length; rw [tp_len]; exact h.l1
      l2 := by show y.tp.length ≤ 65536; rw [tp_len]; exact h.l2 }
  · show Dsk.mk _ _ _ _ = Dsk.mk _ _ _ _
    congr 1
    exact (abs_told y).symm
  · intro k hk
    rcases hk with rfl | rfl | rfl | hk | hk | ⟨c, hc, hk⟩
    · exact .inl (.inl rfl)
    · exact .inl (.inr (.inl rfl))
    · exact .inl (.inr (.inr (.inl rfl)))
    · cases hk
    · exact .inl (.inr (.inr (.inr (.inr (.inl (flushed_ids hk))))))
    · exact .inl (.inr (.inr (.inr (.inr (.inr ⟨c, flushed_ids hc, hk⟩)))))
theorem flush_on (y : Lay) (w : World) (base : Nat) (h : DiskOK w base y) (ho : y.off = false) (hw : y.wp.length ≤ 1000000000) :
    Calls Tryd.prog 23 #[.pointer (some ⟨y.D, 0, none⟩)] w (RetErr w base y 0 y.abs.flush) := by
  have c4 := h.c4
  rw [ho] at c4
  have c3 := h.c3
  obtain ⟨A, cp, hv, _, _⟩ := own_form h.wk
  rw [hv] at c3
  go_enter Tryd.func23, Tryd.ntmps23
  go_wp2
  go_loopw [4, 16] (fun _ i wr => ∃ k : Nat, k ≤ y.wp.length ∧ i = .int .i64 k ∧ Flushing w base y k wr) (fun _ i _ => y.wp.length - (intOf i).toNat)
  case atStart => exact ⟨0, by omega, rfl, Kept.refl _ _, h.lk⟩
  case round =>
    obtain ⟨k, hk, rfl, f⟩ := hrel
    have hLD : y.D ≠ y.L := blk_ne h.dk h.lk (by decide)
    have hD := f.other h h.dk hLD
    by_cases hlt : k < y.wp.length
    · obtain ⟨g, cap, hv', hg, k0, k1⟩ := h.wcell hlt
      have hvv := hv.symm.trans hv'
      injection hvv with hA _ hcp
      subst hA
      subst hcp
      have hgL : g ≠ y.L := own_ne h.wk (by rw [hv']; rfl) h.lk (by decide)
      have k0' : wr.cell? ⟨g, k * 2, none⟩ = some (.int .i64 ((y.wp[k]).1 : Int)) := (World.cell?_of_block (w := w) (f.kept.block g hg hgL)).trans k0
      have k1' : wr.cell? ⟨g, k * 2 + 1, none⟩ = some (.pointer (some ⟨(y.wp[k]).2, 0, none⟩)) := (World.cell?_of_block (w := w) (f.kept.block g hg hgL)).trans k1
      have hS := applyW_length y.lp (someW (y.wp.take k))
      have hwr : (y.wp[k]).1 < y.lp.length := h.wr _ (y.wp[k]).2 (List.getElem_mem hlt)
      have HT : Hid (applyW y.lp (someW (y.wp.take (k + 1))) = (applyW y.lp (someW (y.wp.take k))).set (y.wp[k]).1 (some (y.wp[k]).2)) := by
        show _ = _
        rw [List.take_succ_eq_append_getElem hlt]
        have : someW (y.wp.take k ++ [y.wp[k]]) = someW (y.wp.take k) ++ [((y.wp[k]).1, some (y.wp[k]).2)] := by unfold someW; rw [List.map_append]; rfl
        rw [this, toldW_snoc]
      generalize y.wp[k] = x at *
      obtain ⟨n, c⟩ := x
      simp only at k0' k1' hwr HT
      have d1 : wr.cell? ⟨y.D, 1, none⟩ = some (.slice (some ⟨y.L, 0, none⟩) y.lp.length y.lp.length) := hD.at_ rfl
      have hDl := hD.lt
      have hLl := f.row.lt
      obtain ⟨pv, cL⟩ : ∃ pv, wr.cell? ⟨y.L, n, none⟩ = some pv := by
        have hlt : n < (applyW y.lp (someW (y.wp.take k))).length := by rw [hS]; exact hwr
        exact ⟨ptrV (applyW y.lp (someW (y.wp.take k)))[n], f.row.at_ (by simp [hlt])⟩
      have zL := f.row.frozen n
      clear k0 k1 c3 c4 hS hv hv' hD
      go_wp2
      go_region
      go_wp2
      go_roundw
      case rel =>
        refine ⟨k + 1, by omega, by go_num, (((f.kept.setCell (.inl rfl) _).alloc _).drew), ?_⟩
        have := (f.row.set_ n (.pointer (some ⟨c, 0, none⟩))).alloc (.cells #[.int .i64 (n : Int), .pointer (some ⟨c, 0, none⟩)] 88)
        rw [HT.out]
        have e : (((applyW y.lp (someW (y.wp.take k))).map ptrV).toArray).setIfInBounds n (.pointer (some ⟨c, 0, none⟩)) = (((applyW y.lp (someW (y.wp.take k))).set n (some c)).map ptrV).toArray := by simp [ptrV]
        rw [e] at this
        exact this
      case measure => simp [intOf]; omega
    · obtain rfl : k = y.wp.length := by omega
      have hDl := hD.lt
      have d3 : wr.cell? ⟨y.D, 3, none⟩ = some y.wv := hD.at_ rfl
      have z3 := hD.frozen 3
      have HN := Lib.hid (flush_ok h ho f)
      clear hv
      go_wp2
      go_ret
      exact ⟨rfl, HN.out⟩
end Go.Proofs.YtfdecpmdicnfbaaDoor
