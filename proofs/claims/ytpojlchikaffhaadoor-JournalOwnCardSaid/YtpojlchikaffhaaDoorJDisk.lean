/-
  The walks of package disk's small methods: has, Waits, Size, On; of each on no disk.
-/
import Derived.Test.YtpojlchikaffhaaDoorJMem
namespace Go.Proofs.YtpojlchikaffhaaDoor
open Go.RowKit DiskP

/-- A pointer to a disk. -/
def dP (y : Lay) : Value := .pointer (some ⟨y.D, 0, none⟩)
section
variable {w : World} {base : Nat} {y : Lay}
theorem DiskOK.c0 (h : DiskOK w base y) : w.cell? ⟨y.D, 0, none⟩ = some (.int .i64 (y.size : Int)) := h.dk.at_ rfl
theorem DiskOK.c1 (h : DiskOK w base y) : w.cell? ⟨y.D, 1, none⟩ = some (.slice (some ⟨y.L, 0, none⟩) y.lp.length y.lp.length) := h.dk.at_ rfl
theorem DiskOK.c2 (h : DiskOK w base y) : w.cell? ⟨y.D, 2, none⟩ = some (.slice (some ⟨y.T, 0, none⟩) y.lp.length y.lp.length) := h.dk.at_ rfl
theorem DiskOK.c3 (h : DiskOK w base y) : w.cell? ⟨y.D, 3, none⟩ = some y.wv := h.dk.at_ rfl
theorem DiskOK.c4 (h : DiskOK w base y) : w.cell? ⟨y.D, 4, none⟩ = some (.bool y.off) := h.dk.at_ rfl
end
def hasB (y : Lay) (n : Int) : Bool := decide (0 ≤ n) && decide (n < y.lp.length)

theorem has_calls (y : Lay) (n : Int) (w : World) (base : Nat) (h : DiskOK w base y) :
    Calls Tryd.prog 55 #[.pointer (some ⟨y.D, 0, none⟩), .int .i64 n] w fun e w' => e = .returned (.bool (hasB y n)) ∧ w = w' := by
  have c1 := h.c1
  by_cases h0 : 0 ≤ n
  · have d0 : decide (0 ≤ n) = true := by simpa using h0
    have HB : Hid (hasB y n = decide (n < y.lp.length)) := by show _ = _; unfold hasB; rw [d0]; rfl
    go_enter Tryd.func55, Tryd.ntmps55
    go_wp2
    go_ret
    exact ⟨by rw [HB.out]; rfl, rfl⟩
  · have d0 : decide (0 ≤ n) = false := by simpa using h0
    have HB : Hid (hasB y n = false) := by show _ = _; unfold hasB; rw [d0]; rfl
    go_enter Tryd.func55, Tryd.ntmps55
    go_wp2
    go_ret
    exact ⟨by rw [HB.out]; rfl, rfl⟩

theorem size_calls (y : Lay) (w : World) (base : Nat) (h : DiskOK w base y) :
    Calls Tryd.prog 37 #[.pointer (some ⟨y.D, 0, none⟩)] w fun e w' => e = .returned (.tuple #[.int .i64 (y.lp.length : Int), .int .i64 (y.size : Int)]) ∧ ∃ n, w' = w.drewN n := by
  have c0 := h.c0
  have c1 := h.c1
  go_enter Tryd.func37, Tryd.ntmps37
  go_wp2
  go_quiet (fail)
  go_wp2
  go_ret2
  exact ⟨rfl, _, rfl⟩

/-- Only the struct's cells are others. -/
theorem DiskOK.setD {w w' : World} {base : Nat} {y y' : Lay} (h : DiskOK w base y) (hd : Blk w' y.D 84 y'.dcells) (hb : ∀ k, k ≠ y.D → y.foot k → w'.heap[k]? = w.heap[k]?)
    (hy : y' = { y with off := y'.off }) : DiskOK w' base y' := by
  have nD : ∀ {k : Nat} {t : TypeId} {cs : Array Value}, t ≠ 84 → Blk w k t cs → k ≠ y.D := by
    intro k t cs ht hk e
    subst e
    have h1 := h.dk
    unfold Blk at hk h1
    rw [h1] at hk
    injection hk with hk
    injection hk with _ hk
    exact ht hk.symm
  have nO : ∀ {k n size : Nat} {e : TypeId} {v : Value} {xs : List Value}, e ≠ 84 → w.ownsRow base e size v n xs → v.ownBlock = some k → k ≠ y.D := by
    intro k n size e v xs he ho hk
    rcases ho.2 with ⟨rfl, _⟩ | ⟨g, cap, cur, rfl, _, hg, _⟩
    · cases hk
    · injection hk with hk
      subst hk
      exact nD he hg
  rw [hy]
  rw [hy] at hd
  exact { h with
    dk := hd
    lk := (hb _ (nD (by decide) h.lk) (.inr (.inl rfl))).trans h.lk
    tk := (hb _ (nD (by decide) h.tk) (.inr (.inr (.inl rfl)))).trans h.tk
    wk := own_frame h.wk fun k hk => hb k (nO (by decide) h.wk hk) (.inr (.inr (.inr (.inl hk))))
    ck := fun c hc => (hb c (nD (by decide) (h.ck c hc)) (.inr (.inr (.inr (.inr (.inl hc)))))).trans (h.ck c hc)
    bk := fun c hc => (h.bk c hc).frame fun k hk => hb k (by
      have := h.bk c hc
      cases hs : (y.sect c).bytes with
      | none => rw [hs] at this; unfold BytesOK at this; rw [this] at hk; cases hk
      | some l => rw [hs] at this; exact nO (by decide) this.2 hk) (.inr (.inr (.inr (.inr (.inr ⟨c, hc, hk⟩))))) }

theorem on_calls (y : Lay) (w : World) (base : Nat) (h : DiskOK w base y) :
    Calls Tryd.prog 24 #[.pointer (some ⟨y.D, 0, none⟩)] w fun e w' => e = .returned (.tuple #[]) ∧ DiskOK w' base { y with off := false } ∧ Kept y.foot w w' := by
  have c4 := h.c4
  have f4 := h.dk.frozen 4
  go_enter Tryd.func24, Tryd.ntmps24
  go_wp2
  go_end0
  refine ⟨rfl, ?_, (Kept.refl _ _).setCell (.inl (.inl rfl)) _⟩
  exact h.setD (y' := { y with off := false }) (h.dk.set_ 4 (.bool false)) (fun k hk _ => heap_setCell_other _ _ _ _ hk) rfl
end Go.Proofs.YtpojlchikaffhaaDoor
namespace Go.Proofs.YtpojlchikaffhaaDoor
open Go.RowKit DiskP

theorem info_u8 : (Tryd.prog.info? 5).map (fun i => (i.zero, i.size, i.bytes)) = some (some (.int .u8 0), 1, 1) := by kernel_rfl
theorem el_u8 : El Tryd.prog 24 5 (.int .u8 0) 1 1 := ⟨info_parts info_u8, Tryd.underlying24, rfl, by decide⟩
theorem info_pc : (Tryd.prog.info? 89).map (fun i => (i.zero, i.size, i.bytes)) = some (some (.pointer none), 1, 8) := by kernel_rfl
theorem el_pc : El Tryd.prog 81 89 (.pointer none) 1 8 := ⟨info_parts info_pc, Tryd.underlying81, rfl, by decide⟩

/-- It gives a new disk back; nothing that was there has turned. -/
def RetDisk (w : World) (n size : Nat) (e : Ending) (w' : World) : Prop :=
  ∃ y : Lay, e = .returned (.tuple #[.pointer (some ⟨y.D, 0, none⟩), .int .i64 0]) ∧ DiskOK w' w.heap.size y ∧ y.abs = newD n size ∧ y.lp.length = n ∧ y.size = size ∧ Below w.heap.size w w'

theorem new_no (n size : Int) (w : World) (h : n < 1 ∨ 65536 < n ∨ size < 16 ∨ 4096 < size) :
    Calls Tryd.prog 16 #[.int .i64 n, .int .i64 size] w fun e w' => e = .returned (.tuple #[.pointer none, .int .i64 1]) ∧ w = w' := by
  by_cases h1 : n < 1
  · have d1 : decide (n < 1) = true := by simpa using h1
    go_enter Tryd.func16, Tryd.ntmps16
    go_wp2
    go_ret2
    exact ⟨rfl, rfl⟩
  · have d1 : decide (n < 1) = false := by simpa using h1
    by_cases h2 : 65536 < n
    · have d2 : decide (65536 < n) = true := by simpa using h2
      go_enter Tryd.func16, Tryd.ntmps16
      go_wp2
      go_ret2
      exact ⟨rfl, rfl⟩
    · have d2 : decide (65536 < n) = false := by simpa using h2
      by_cases h3 : size < 16
      · have d3 : decide (size < 16) = true := by simpa using h3
        go_enter Tryd.func16, Tryd.ntmps16
        go_wp2
        go_ret2
        exact ⟨rfl, rfl⟩
      · have d3 : decide (size < 16) = false := by simpa using h3
        have d4 : decide (4096 < size) = true := by simp; omega
        go_enter Tryd.func16, Tryd.ntmps16
        go_wp2
        go_ret2
        exact ⟨rfl, rfl⟩

def newL (n size D L T : Nat) : Lay := ⟨D, L, T, size, List.replicate n none, [], .slice none 0 0, false, fun _ => tornS, fun _ => .slice none 0 0⟩
theorem new_ok (n size : Nat) (w : World) (L T : Nat) (hL : w.heap.size ≤ L) (hT : w.heap.size ≤ T) (hLT : L ≠ T) (h1 : 1 ≤ n) (h2 : n ≤ 65536) (h3 : 16 ≤ size) (h4 : size ≤ 4096) {e : Ending}
    (he : e = .returned (.tuple #[.pointer (some ⟨w.heap.size + 1 + 1, 0, none⟩), .int .i64 0]))
    (hL2 : L < w.heap.size + 2 := by omega) (hT2 : T < w.heap.size + 2 := by omega) :
    RetDisk w n size e (((w.alloc (.cells (rep n (.pointer none)) 89)).alloc (.cells (rep n (.pointer none)) 89)).alloc
      (.cells #[.int .i64 (size : Int), .slice (some ⟨L, 0, none⟩) n n, .slice (some ⟨T, 0, none⟩) n n, .slice none 0 0, .bool false] 84)).drew := by
  have b0 : Blk (((w.alloc (.cells (rep n (.pointer none)) 89)).alloc (.cells (rep n (.pointer none)) 89)).alloc
      (.cells #[.int .i64 (size : Int), .slice (some ⟨L, 0, none⟩) n n, .slice (some ⟨T, 0, none⟩) n n, .slice none 0 0, .bool false] 84)) w.heap.size 89 (rep n (.pointer none)) :=
    ((Blk.new w _ _).alloc _).alloc _
  have b1 : Blk (((w.alloc (.cells (rep n (.pointer none)) 89)).alloc (.cells (rep n (.pointer none)) 89)).alloc
      (.cells #[.int .i64 (size : Int), .slice (some ⟨L, 0, none⟩) n n, .slice (some ⟨T, 0, none⟩) n n, .slice none 0 0, .bool false] 84)) (w.heap.size + 1) 89 (rep n (.pointer none)) := by
    have := (Blk.new (w.alloc (.cells (rep n (.pointer none)) 89)) 89 (rep n (.pointer none))).alloc (.cells #[.int .i64 (size : Int), .slice (some ⟨L, 0, none⟩) n n, .slice (some ⟨T, 0, none⟩) n n, .slice none 0 0, .bool false] 84)
    simpa using this
  have bD := Blk.new ((w.alloc (.cells (rep n (.pointer none)) 89)).alloc (.cells (rep n (.pointer none)) 89)) 84 #[.int .i64 (size : Int), .slice (some ⟨L, 0, none⟩) n n, .slice (some ⟨T, 0, none⟩) n n, .slice none 0 0, .bool false]
  have hrep : (List.replicate n (none : Option Nat)).map ptrV = List.replicate n (.pointer none) := by simp [ptrV]
  have hX : ∀ X, w.heap.size ≤ X → X < w.heap.size + 2 → Blk (((w.alloc (.cells (rep n (.pointer none)) 89)).alloc (.cells (rep n (.pointer none)) 89)).alloc
      (.cells #[.int .i64 (size : Int), .slice (some ⟨L, 0, none⟩) n n, .slice (some ⟨T, 0, none⟩) n n, .slice none 0 0, .bool false] 84)) X 89 (rep n (.pointer none)) := by
    intro X hX1 hX2
    have : X = w.heap.size ∨ X = w.heap.size + 1 := by omega
    rcases this with rfl | rfl
    · exact b0
    · exact b1
  have noids : ∀ c, ¬ (newL n size (w.heap.size + 1 + 1) L T).ids c := by
    intro c hc
    rcases hc with hc | ⟨m, hc⟩
    · simp [newL] at hc
    · simp [newL] at hc
  refine ⟨newL n size (w.heap.size + 1 + 1) L T, he, ?_, ?_, by simp [newL], rfl, ((((Below.refl _ _).alloc (Nat.le_refl _) _).alloc (by simp) _).alloc (by simp; omega) _).drew⟩
  · exact {
      dk := by
        show Blk _ (w.heap.size + 1 + 1) _ _
        have : (newL n size (w.heap.size + 1 + 1) L T).dcells = #[.int .i64 (size : Int), .slice (some ⟨L, 0, none⟩) n n, .slice (some ⟨T, 0, none⟩) n n, .slice none 0 0, .bool false] := by simp [newL, Lay.dcells]
        rw [this]
        refine Blk.drew ?_
        simpa using bD
      lk := by
        show Blk _ L _ (((List.replicate n none).map ptrV).toArray)
        rw [hrep]
        exact hX L hL hL2
      tk := by
        show Blk _ T _ (((List.replicate n none).map ptrV).toArray)
        rw [hrep]
        exact hX T hT hT2
      wk := World.ownsRow_nil _ _ _ _
      ck := fun c hc => absurd hc (noids c)
      bk := fun c hc => absurd hc (noids c)
      bD := by show w.heap.size ≤ w.heap.size + 1 + 1; omega
      bL := hL
      bT := hT
      bc := fun c hc => absurd hc (noids c)
      n1 := fun i j c hi _ => by
        have := List.mem_of_getElem? hi
        simp [newL] at this
      n2 := fun i j n m c hi _ => by simp [newL] at hi
      n3 := fun c n _ h => by simp [newL] at h
      nb := fun c c' k hc => absurd hc (noids c)
      lt := hLT
      wr := fun n c h => by simp [newL] at h
      s1 := h3
      s2 := h4
      l1 := by simp [newL]; exact h1
      l2 := by simp [newL]; exact h2 }
  · simp [newL, Lay.abs, newD, ptrS]
theorem new_calls (n size : Nat) (w : World) (h1 : 1 ≤ n) (h2 : n ≤ 65536) (h3 : 16 ≤ size) (h4 : size ≤ 4096) :
    Calls Tryd.prog 16 #[.int .i64 (n : Int), .int .i64 (size : Int)] w (RetDisk w n size) := by
  have d1 : decide ((n : Int) < 1) = false := by simp; omega
  have d2 : decide (65536 < (n : Int)) = false := by simp; omega
  have d3 : decide ((size : Int) < 16) = false := by simp; omega
  have d4 : decide (4096 < (size : Int)) = false := by simp; omega
  have hmk := run_make_n el_pc rfl n (by omega) (by omega)
  go_enter Tryd.func16, Tryd.ntmps16
  go_wp2
  go_region
  · go_wp2
    go_ret2
    exact new_ok n size w w.heap.size (w.heap.size + 1) (by omega) (by omega) (by omega) (by omega) (by omega) (by omega) (by omega) rfl
  · go_wp2
    go_ret2
    exact new_ok n size w (w.heap.size + 1) w.heap.size (by omega) (by omega) (by omega) (by omega) (by omega) (by omega) (by omega) rfl
end Go.Proofs.YtpojlchikaffhaaDoor
namespace Go.Proofs.YtpojlchikaffhaaDoor
open Go.RowKit DiskP

/-- It gives the bytes of a sector, or why there are none; the bytes are the caller's own. -/
def RetRead (w : World) (y : Lay) (n : Int) (e : Ending) (w' : World) : Prop :=
  ∃ v, e = .returned (.tuple #[v, .int .i64 (y.abs.readE n)]) ∧ w'.ownsRow w.heap.size 5 1 v (y.abs.readL n).length (cB (y.abs.readL n)) ∧ Below w.heap.size w w'
theorem hasB_abs (y : Lay) (n : Int) : y.abs.has n = hasB y n := by simp [Dsk.has, hasB, Lay.abs]
theorem RetRead.no {w w' : World} {y : Lay} {n : Int} {e : Ending} (k : Int) (hk : k ≠ 0) (he : e = .returned (.tuple #[.slice none 0 0, .int .i64 k])) (hr : y.abs.readE n = k) (hb : Below w.heap.size w w') : RetRead w y n e w' := by
  have hl : y.abs.readL n = [] := by unfold DiskP.Dsk.readL; rw [hr, if_neg hk]
  exact ⟨.slice none 0 0, by rw [hr]; exact he, by rw [hl]; exact World.ownsRow_nil _ _ _ _, hb⟩
theorem neq_ptr_nil (w : World) : (binOp .neq 89 (.pointer none) (.pointer none)).run Tryd.prog w = .ok (.bool false) w := by kernel_rfl

theorem RetRead.ok {w w' : World} {y : Lay} {n : Int} {e : Ending} (v : Value) (l : List UInt8) (k : Nat) (hl : l.length = k) (he : e = .returned (.tuple #[v, .int .i64 0])) (hr : y.abs.readE n = 0) (hb2 : y.abs.readB n.toNat = l)
    (hown : w'.ownsRow w.heap.size 5 1 v k (cB l)) (hb : Below w.heap.size w w') : RetRead w y n e w' := by
  have hl2 : y.abs.readL n = l := by unfold DiskP.Dsk.readL; rw [hr, if_pos rfl, hb2]
  exact ⟨v, by rw [hr]; exact he, by rw [hl2, hl]; exact hown, hb⟩
theorem read_on (y : Lay) (n : Int) (w : World) (base : Nat) (h : DiskOK w base y) (hh : hasB y n = true) (ho : y.off = false) :
    Calls Tryd.prog 56 #[.pointer (some ⟨y.D, 0, none⟩), .int .i64 n] w (RetRead w y n) := by
  obtain ⟨hn0, hn1⟩ : 0 ≤ n ∧ n < y.lp.length := by simpa [hasB] using hh
  obtain ⟨n, rfl⟩ := Int.eq_ofNat_of_zero_le hn0
  have hn : n < y.lp.length := by omega
  have h1 := hasB_abs y (n : Int)
  have c4 := h.c4
  rw [ho] at c4
  have c0 := h.c0
  have c2 := h.c2
  have hs1 := h.s1
  have hs2 := h.s2
  have hmk := run_make_n el_u8 rfl y.size (by omega) (by omega)
  have htp : y.tp[n]? = some (y.tp[n]'(by rw [tp_len]; exact hn)) := List.getElem?_eq_getElem (by rw [tp_len]; exact hn)
  generalize hp : y.tp[n]'(by rw [tp_len]; exact hn) = p at htp
  clear hp
  have ct : w.cell? ⟨y.T, n, none⟩ = some (ptrV p) := h.tk.at_ (by simp [htp])
  have habs : y.abs.told[n]? = some (ptrS y.size y.sect p) := by rw [abs_told]; simp [htp]
  have HE : Hid (y.abs.readE (n : Int) = if (ptrS y.size y.sect p).bytes.isNone then 9 else 0) := by
    show _ = _
    unfold Dsk.readE
    rw [h1, hh, if_neg (by decide)]
    have : y.abs.off = false := ho
    rw [this, if_neg (by decide), Int.toNat_natCast, habs]
  have HB : Hid (y.abs.readB n = ((ptrS y.size y.sect p).bytes).getD []) := by
    show _ = _
    unfold Dsk.readB; rw [habs]; rfl
  clear h1 habs hn0 hn1
  cases p with
  | none =>
    have ct' : w.cell? ⟨y.T, n, none⟩ = some (.pointer none) := ct
    clear ct htp
    go_enter Tryd.func56, Tryd.ntmps56
    go_wp2_with fail
    refine (has_calls y n w base h).mono ?_
    rintro e w' ⟨rfl, rfl⟩
    rw [hh]
    have ct2 : ∀ o, (w.alloc o).cell? ⟨y.T, n, none⟩ = some (.pointer none) := fun o => (World.cell?_alloc_lt w o ⟨y.T, n, none⟩ h.tk.lt).trans ct'
    have cd2 : ∀ o, (w.alloc o).cell? ⟨y.D, 2, none⟩ = some (.slice (some ⟨y.T, 0, none⟩) y.lp.length y.lp.length) := fun o => (World.cell?_alloc_lt w o ⟨y.D, 2, none⟩ h.dk.lt).trans c2
    go_wp2
    go_ret2
    refine RetRead.ok _ (List.replicate y.size 0) y.size (by simp) rfl HE.out (by rw [Int.toNat_natCast, HB.out]; rfl) ?_ ((Below.refl _ _).alloc (Nat.le_refl _) _)
    have := own_made w (base := w.heap.size) 5 y.size (.int .u8 0) (Nat.le_refl _) (by unfold maxLen; omega)
    rw [show cB (List.replicate y.size 0) = List.replicate y.size (.int .u8 0) by simp [cB, byteV]]
    exact this
  | some c =>
    have hc : y.ids c := tp_ids y (List.mem_of_getElem? htp)
    have ct' : w.cell? ⟨y.T, n, none⟩ = some (.pointer (some ⟨c, 0, none⟩)) := ct
    have ck := h.ck c hc
    have bk := h.bk c hc
    have hcl := ck.lt
    have ct2 : ∀ o, (w.alloc o).cell? ⟨y.T, n, none⟩ = some (.pointer (some ⟨c, 0, none⟩)) := fun o => (World.cell?_alloc_lt w o ⟨y.T, n, none⟩ h.tk.lt).trans ct'
    have cd2 : ∀ o, (w.alloc o).cell? ⟨y.D, 2, none⟩ = some (.slice (some ⟨y.T, 0, none⟩) y.lp.length y.lp.length) := fun o => (World.cell?_alloc_lt w o ⟨y.D, 2, none⟩ h.dk.lt).trans c2
    have k0 : ∀ o, (w.alloc o).cell? ⟨c, 0, none⟩ = some (y.bv c) := fun o => (World.cell?_alloc_lt w o ⟨c, 0, none⟩ hcl).trans (ck.at_ rfl)
    have k1 : ∀ o, (w.alloc o).cell? ⟨c, 1, none⟩ = some (.bool (y.sect c).bytes.isNone) := fun o => (World.cell?_alloc_lt w o ⟨c, 1, none⟩ hcl).trans (ck.at_ rfl)
    clear ct htp ck
    cases hs : (y.sect c).bytes with
    | none =>
      rw [hs] at k1
      have HE' : Hid (y.abs.readE (n : Int) = 9) := by have := HE.out; simp only [ptrS, hs] at this; exact this
      clear HE HB bk hs k0
      go_enter Tryd.func56, Tryd.ntmps56
      go_wp2_with fail
      refine (has_calls y n w base h).mono ?_
      rintro e w' ⟨rfl, rfl⟩
      rw [hh]
      have k1' : ∀ o, (w.alloc o).cell? ⟨c, 1, none⟩ = some (.bool true) := k1
      clear k1
      go_wp2
      go_ret2
      exact RetRead.no 9 (by decide) rfl HE'.out ((Below.refl _ _).alloc (Nat.le_refl _) _)
    | some l =>
      rw [hs] at k1 bk
      obtain ⟨hl, hown⟩ := bk
      have HE' : Hid (y.abs.readE (n : Int) = 0) := by have := HE.out; simp only [ptrS, hs] at this; exact this
      have HB' : Hid (y.abs.readB n = l) := by have := HB.out; simp only [ptrS, hs] at this; exact this
      clear HE HB hs
      obtain ⟨A, cp, hv, _, _⟩ := own_form hown
      rw [hv] at hown k0
      have hR : RB w A l := RV.of_own hown
      have k1' : ∀ o, (w.alloc o).cell? ⟨c, 1, none⟩ = some (.bool false) := k1
      have Hl := Lib.hid hl
      clear k1 hown hl
      go_enter Tryd.func56, Tryd.ntmps56
      go_wp2_with fail
      refine (has_calls y n w base h).mono ?_
      rintro e w' ⟨rfl, rfl⟩
      rw [hh]
      go_wp2_with ((with_reducible show wpList _ _ _ (⟨some 41, _, _, _, _, _⟩ :: _) _ _); refine wpList_copy_splice rfl (.tmp 36) (.tmp 40) 24 24 rfl 5 Tryd.underlying24 (by kernel_rfl) (some ⟨w.heap.size, 0, none⟩) A y.size y.size y.size cp rfl rfl w.heap.size 0 (List.replicate y.size (.int .u8 0)) 5 (Blk.new w 5 (rep y.size (.int .u8 0))) (cB l) ?e1 ?e2 ?e3 (cB_one l) w.heap.size w ((Below.refl _ _).alloc (Nat.le_refl _) _) (Nat.le_refl _) ?_)
      case e1 => rw [cB_len, Hl.out]; simp
      case e2 => exact rv_cells (hR.alloc _)
      case e3 => rw [cB_len, Hl.out]; simp
      intro w1 HW b1
      have own1 : w1.ownsRow w.heap.size 5 1 (.slice (some ⟨w.heap.size, 0, none⟩) y.size y.size) y.size (cB l) := by
        refine ⟨by rw [cB_len, Hl.out, Nat.mul_one], .inr ⟨_, _, _, rfl, Nat.le_refl _, HW.out, Nat.le_refl _, by unfold maxLen; omega, ?_, ?_⟩⟩
        · rw [splice_all _ _ (by rw [cB_len, Hl.out]; simp)]; simp [cB_len, Hl.out]
        · rw [splice_all _ _ (by rw [cB_len, Hl.out]; simp), Nat.mul_one]
          exact List.take_of_length_le (by rw [cB_len, Hl.out]; exact Nat.le_refl _)
      clear HW
      go_wp2
      go_ret2
      exact RetRead.ok _ l y.size Hl.out rfl HE'.out (by rw [Int.toNat_natCast]; exact HB'.out) own1 b1
theorem read_calls (y : Lay) (n : Int) (w : World) (base : Nat) (h : DiskOK w base y) :
    Calls Tryd.prog 56 #[.pointer (some ⟨y.D, 0, none⟩), .int .i64 n] w (RetRead w y n) := by
  have h1 := hasB_abs y n
  cases hh : hasB y n
  · have HR : Hid (y.abs.readE n = 1) := by show _ = _; unfold Dsk.readE; rw [h1, hh]; rfl
    clear h1
    go_enter Tryd.func56, Tryd.ntmps56
    go_wp2_with fail
    refine (has_calls y n w base h).mono ?_
    rintro e w' ⟨rfl, rfl⟩
    rw [hh]
    go_wp2
    go_ret2
    exact RetRead.no 1 (by decide) rfl HR.out (Below.refl _ _)
  · have c4 := h.c4
    cases ho : y.off
    · exact read_on y n w base h hh ho
    · have HR : Hid (y.abs.readE n = 10) := by
        show _ = _
        unfold Dsk.readE; rw [h1, hh]
        have : y.abs.off = true := ho
        rw [this]; rfl
      clear h1
      rw [ho] at c4
      go_enter Tryd.func56, Tryd.ntmps56
      go_wp2_with fail
      refine (has_calls y n w base h).mono ?_
      rintro e w' ⟨rfl, rfl⟩
      rw [hh]
      go_wp2
      go_ret2
      exact RetRead.no 10 (by decide) rfl HR.out (Below.refl _ _)
end Go.Proofs.YtpojlchikaffhaaDoor
namespace Go.Proofs.YtpojlchikaffhaaDoor
open Go.RowKit DiskP

theorem own_mono {w : World} {base b' : Nat} {e : TypeId} {size n : Nat} {v : Value} {xs : List Value} (h : w.ownsRow base e size v n xs) (hb : b' ≤ base) : w.ownsRow b' e size v n xs := by
  refine ⟨h.1, ?_⟩
  rcases h.2 with h0 | ⟨g, cap, cur, rfl, h1, h2⟩
  · exact .inl h0
  · exact .inr ⟨g, cap, cur, rfl, Nat.le_trans hb h1, h2⟩
/-- Blocks of other types are other blocks. -/
theorem blk_ne {w : World} {g g' : Nat} {t t' : TypeId} {cs cs' : Array Value} (h : Blk w g t cs) (h' : Blk w g' t' cs') (hne : t ≠ t') : g ≠ g' := by
  rintro rfl
  unfold Blk at h h'
  rw [h] at h'
  injection h' with h'
  injection h' with _ ht
  exact hne ht
theorem own_ne {w : World} {base g : Nat} {e t : TypeId} {size n k : Nat} {v : Value} {xs : List Value} {cs : Array Value} (h : w.ownsRow base e size v n xs) (hk : v.ownBlock = some k) (hg : Blk w g t cs) (hne : e ≠ t) : k ≠ g := by
  rcases h.2 with ⟨rfl, _⟩ | ⟨g', cap, cur, rfl, _, hh, _⟩
  · cases hk
  · injection hk with hk
    subst hk
    exact blk_ne (t := e) hh hg hne
theorem own_ne2 {w : World} {base base' : Nat} {e e' : TypeId} {size n k size' n' k' : Nat} {v v' : Value} {xs xs' : List Value} (h : w.ownsRow base e size v n xs) (hk : v.ownBlock = some k) (h' : w.ownsRow base' e' size' v' n' xs') (hk' : v'.ownBlock = some k') (hne : e ≠ e') : k ≠ k' := by
  rcases h'.2 with ⟨rfl, _⟩ | ⟨g', cap, cur, rfl, _, hh, _⟩
  · cases hk'
  · injection hk' with hk'
    subst hk'
    exact own_ne h hk (g := g') (t := e') hh hne
/-- A disk goes on as another; nothing else that was there has turned. -/
def Next (w : World) (base : Nat) (y : Lay) (S : Dsk) (w' : World) : Prop :=
  ∃ y', DiskOK w' base y' ∧ y'.abs = S ∧ y'.D = y.D ∧ Kept y.foot w w' ∧ ∀ k, y'.foot k → y.foot k ∨ w.heap.size ≤ k
theorem Next.same {w : World} {base : Nat} {y : Lay} (h : DiskOK w base y) : Next w base y y.abs w := ⟨y, h, rfl, rfl, Kept.refl _ _, fun _ hk => .inl hk⟩
theorem Next.same_below {w w' : World} {base : Nat} {y : Lay} (h : DiskOK w base y) (hb : Below w.heap.size w w') : Next w base y y.abs w' := ⟨y, h.below hb, rfl, rfl, Kept.of_below hb _, fun _ hk => .inl hk⟩

theorem info_wr : (Tryd.prog.info? 91).map (fun i => (i.zero, i.size, i.bytes)) = some (some (.agg #[.int .i64 0, .pointer none]), 2, 16) := by kernel_rfl
theorem el_wr : El Tryd.prog 82 91 (.agg #[.int .i64 0, .pointer none]) 2 16 := ⟨info_parts info_wr, Tryd.underlying82, rfl, by decide⟩

def wrote (y : Lay) (n c : Nat) (v1 v2 : Value) (l : List UInt8) : Lay :=
  { y with wp := y.wp ++ [(n, c)], wv := v2, sect := fun k => if k = c then ⟨some l, false⟩ else y.sect k, bv := fun k => if k = c then v1 else y.bv k }
theorem wrote_ids {y : Lay} {n c k : Nat} {v1 v2 : Value} {l : List UInt8} : (wrote y n c v1 v2 l).ids k ↔ y.ids k ∨ k = c := by
  simp only [Lay.ids, wrote]
  constructor
  · rintro (h | ⟨m, h⟩)
    · exact .inl (.inl h)
    · rcases List.mem_append.1 h with h | h
      · exact .inl (.inr ⟨m, h⟩)
      · simp at h; exact .inr h.2
  · rintro ((h | ⟨m, h⟩) | rfl)
    · exact .inl h
    · exact .inr ⟨m, by simp [h]⟩
    · exact .inr ⟨n, by simp⟩
theorem wrote_tp (y : Lay) (n c : Nat) (v1 v2 : Value) (l : List UInt8) : (wrote y n c v1 v2 l).tp = y.tp.set n (some c) := by
  show applyW y.lp (someW (y.wp ++ [(n, c)])) = (applyW y.lp (someW y.wp)).set n (some c)
  have : someW (y.wp ++ [(n, c)]) = someW y.wp ++ [(n, some c)] := by simp [someW]
  rw [this, toldW_snoc]

theorem write_ok {w w3 w4 : World} {base : Nat} {y : Lay} {n c : Nat} {v1 v2 : Value} {l : List UInt8} (h : DiskOK w base y) (b3 : Below w.heap.size w w3)
    (hn : n < y.lp.length) (hl : l.length = y.size)
    (hc : Blk w3 c 93 #[v1, .bool false, .bool false]) (hcw : w.heap.size ≤ c)
    (own1 : w3.ownsRow w.heap.size 5 1 v1 y.size (cB l))
    (own4 : w4.ownsRow base 91 2 v2 (y.wp.length + 1) (wcells y.wp ++ [.int .i64 (n : Int), .pointer (some ⟨c, 0, none⟩)]))
    (gr : w3.grownBy w4 y.wv.ownBlock) (hv2 : v2.ownBlock = y.wv.ownBlock ∨ v2.ownBlock = some w3.heap.size) :
    Next w base y (y.abs.write n l) ((w4.setCell ⟨y.D, 3, none⟩ v2).setCell ⟨y.T, n, none⟩ (.pointer (some ⟨c, 0, none⟩))) := by
  have h3 := h.below b3
  have hbw : base ≤ w.heap.size := Nat.le_trans h.bD (Nat.le_of_lt h.dk.lt)
  -- blocks that neither the append nor the stores reach
  have keep : ∀ k, k < w3.heap.size → some k ≠ y.wv.ownBlock → k ≠ y.D → k ≠ y.T → ((w4.setCell ⟨y.D, 3, none⟩ v2).setCell ⟨y.T, n, none⟩ (.pointer (some ⟨c, 0, none⟩))).heap[k]? = w3.heap[k]? := by
    intro k hk h1 h2 h4
    rw [heap_setCell_other _ _ _ _ h4, heap_setCell_other _ _ _ _ h2]
    exact gr.block k hk h1
  have nw : ∀ {k : Nat} {t : TypeId} {cs : Array Value}, Blk w3 k t cs → t ≠ 91 → some k ≠ y.wv.ownBlock := by
    intro k t cs hb ht e
    exact own_ne h3.wk e.symm hb (fun e => ht e.symm) rfl
  have nwo : ∀ {k m size : Nat} {e : TypeId} {b' : Nat} {v : Value} {xs : List Value}, w3.ownsRow b' e size v m xs → v.ownBlock = some k → e ≠ 91 → some k ≠ y.wv.ownBlock := by
    intro k m size e b' v xs ho hk he e'
    exact own_ne2 ho hk h3.wk e'.symm he rfl
  have hD4 : Blk w4 y.D 84 y.dcells := (gr.block y.D h3.dk.lt (nw h3.dk (by decide))).trans h3.dk
  have hT4 : Blk w4 y.T 89 (y.tp.map ptrV).toArray := (gr.block y.T h3.tk.lt (nw h3.tk (by decide))).trans h3.tk
  have hDT : y.D ≠ y.T := blk_ne h3.dk h3.tk (by decide)
  have nc : ∀ k, y.ids k → k ≠ c := fun k hk e => by have := (h.ck k hk).lt; omega
  have idk : ∀ k, (wrote y n c v1 v2 l).ids k → k = c ∨ (y.ids k ∧ k ≠ c) := by
    intro k hk
    rcases wrote_ids.1 hk with hk | rfl
    · exact .inr ⟨hk, nc k hk⟩
    · exact .inl rfl
  have v2lt : ∀ k, v2.ownBlock = some k → k ≠ y.D ∧ k ≠ y.T := by
    intro k hk
    exact ⟨own_ne own4 hk hD4 (by decide), own_ne own4 hk hT4 (by decide)⟩
  refine ⟨wrote y n c v1 v2 l, ?_, ?_, rfl, ?_, ?_⟩
  · exact {
      dk := by
        refine Blk.far (p := ⟨y.T, n, none⟩) ?_ (by exact hDT) _
        have := hD4.set_ 3 v2
        exact this
      lk := (keep y.L h3.lk.lt (nw h3.lk (by decide)) (fun e => blk_ne h3.lk h3.dk (by decide) e) h.lt).trans h3.lk
      tk := by
        have := (hT4.far (p := ⟨y.D, 3, none⟩) hDT.symm v2).set_ n (.pointer (some ⟨c, 0, none⟩))
        rw [wrote_tp]
        have e : ((y.tp.map ptrV).toArray).setIfInBounds n (.pointer (some ⟨c, 0, none⟩)) = ((y.tp.set n (some c)).map ptrV).toArray := by
          simp [ptrV]
        rw [e] at this
        exact this
      wk := by
        have e : wcells (wrote y n c v1 v2 l).wp = wcells y.wp ++ [.int .i64 (n : Int), .pointer (some ⟨c, 0, none⟩)] := by simp [wcells, wrote]
        have el : (wrote y n c v1 v2 l).wp.length = y.wp.length + 1 := by simp [wrote]
        rw [e, el]
        refine own_frame own4 fun k hk => ?_
        rw [heap_setCell_other _ _ _ _ (v2lt k hk).2, heap_setCell_other _ _ _ _ (v2lt k hk).1]
      ck := fun k hk => by
        rcases idk k hk with rfl | ⟨hk, hne⟩
        · have e : (wrote y n k v1 v2 l).bv k = v1 := if_pos rfl
          have e2 : (wrote y n k v1 v2 l).sect k = ⟨some l, false⟩ := if_pos rfl
          rw [e, e2]
          exact (keep k hc.lt (nw hc (by decide)) (fun e => blk_ne hc h3.dk (by decide) e) (fun e => blk_ne hc h3.tk (by decide) e)).trans hc
        · have e : (wrote y n c v1 v2 l).bv k = y.bv k := if_neg hne
          have e2 : (wrote y n c v1 v2 l).sect k = y.sect k := if_neg hne
          rw [e, e2]
          have hck := h3.ck k hk
          exact (keep k hck.lt (nw hck (by decide)) (fun e => blk_ne hck h3.dk (by decide) e) (fun e => blk_ne hck h3.tk (by decide) e)).trans hck
      bk := fun k hk => by
        rcases idk k hk with rfl | ⟨hk, hne⟩
        · have e : (wrote y n k v1 v2 l).bv k = v1 := if_pos rfl
          have e2 : (wrote y n k v1 v2 l).sect k = ⟨some l, false⟩ := if_pos rfl
          rw [e, e2]
          exact ⟨hl, own_mono (own_frame own1 fun j hj => keep j (own_lt own1 hj).2 (nwo own1 hj (by decide)) (own_ne own1 hj h3.dk (by decide)) (own_ne own1 hj h3.tk (by decide))) hbw⟩
        · have e : (wrote y n c v1 v2 l).bv k = y.bv k := if_neg hne
          have e2 : (wrote y n c v1 v2 l).sect k = y.sect k := if_neg hne
          rw [e, e2]
          have hbk := h3.bk k hk
          cases hs : (y.sect k).bytes with
          | none => rw [hs] at hbk; exact hbk
          | some m =>
            rw [hs] at hbk
            exact ⟨hbk.1, own_frame hbk.2 fun j hj => keep j (own_lt hbk.2 hj).2 (nwo hbk.2 hj (by decide)) (own_ne hbk.2 hj h3.dk (by decide)) (own_ne hbk.2 hj h3.tk (by decide))⟩
      bD := h.bD
      bL := h.bL
      bT := h.bT
      bc := fun k hk => by
        rcases idk k hk with rfl | ⟨hk, _⟩
        · omega
        · exact h.bc k hk
      n1 := h.n1
      n2 := fun i j n' m k hi hj => by
        simp only [wrote] at hi hj
        have low : ∀ (i n' : Nat), (y.wp ++ [(n, c)])[i]? = some (n', k) → (i < y.wp.length ∧ y.wp[i]? = some (n', k)) ∨ (i = y.wp.length ∧ k = c) := by
          intro i n' hi
          rcases Nat.lt_or_ge i y.wp.length with hlt | hge
          · rw [List.getElem?_append_left hlt] at hi
            exact .inl ⟨hlt, hi⟩
          · rw [List.getElem?_append_right hge] at hi
            have : i - y.wp.length = 0 := by
              rcases Nat.eq_zero_or_pos (i - y.wp.length) with h0 | h0
              · exact h0
              · rw [List.getElem?_eq_none (by simp; omega)] at hi; cases hi
            rw [this] at hi
            simp at hi
            exact .inr ⟨by omega, hi.2.symm⟩
        have ne : ∀ (i n' : Nat), y.wp[i]? = some (n', k) → k ≠ c := fun i n' hi => nc k (.inr ⟨n', List.mem_of_getElem? hi⟩)
        rcases low i n' hi with ⟨_, hi⟩ | ⟨hi, hk⟩ <;> rcases low j m hj with ⟨_, hj⟩ | ⟨hj, hk'⟩
        · exact h.n2 i j n' m k hi hj
        · exact absurd hk' (ne _ _ hi)
        · exact absurd hk (ne _ _ hj)
        · omega
      n3 := fun k m hk hm => by
        simp only [wrote] at hk hm
        rcases List.mem_append.1 hm with hm | hm
        · exact h.n3 k m hk hm
        · simp at hm
          exact nc k (.inl hk) hm.2
      nb := fun k k' j hk hk' hj hj' => by
        have bvc : (wrote y n c v1 v2 l).bv c = v1 := if_pos rfl
        have bvn : ∀ k, k ≠ c → (wrote y n c v1 v2 l).bv k = y.bv k := fun k hne => if_neg hne
        rcases idk k hk with rfl | ⟨hk1, hne⟩ <;> rcases idk k' hk' with rfl | ⟨hk1', hne'⟩
        · rfl
        · rw [bvc] at hj
          rw [bvn _ hne'] at hj'
          have h1 := (own_lt own1 hj).1
          have h2 := ((h.bk k' hk1').lt hj').2
          omega
        · rw [bvc] at hj'
          rw [bvn _ hne] at hj
          have h1 := (own_lt own1 hj').1
          have h2 := ((h.bk k hk1).lt hj).2
          omega
        · rw [bvn _ hne] at hj
          rw [bvn _ hne'] at hj'
          exact h.nb k k' j hk1 hk1' hj hj'
      lt := h.lt
      wr := fun m k hm => by
        simp only [wrote] at hm
        rcases List.mem_append.1 hm with hm | hm
        · exact h.wr m k hm
        · simp at hm
          show m < y.lp.length
          omega
      s1 := h.s1
      s2 := h.s2
      l1 := h.l1
      l2 := h.l2 }
  · have hsec : ∀ k, y.ids k → (wrote y n c v1 v2 l).sect k = y.sect k := fun k hk => if_neg (nc k hk)
    have hsc : (wrote y n c v1 v2 l).sect c = ⟨some l, false⟩ := if_pos rfl
    show Dsk.mk _ _ _ _ = Dsk.mk _ _ _ _
    congr 1
    · apply List.map_congr_left
      intro o ho
      cases o with
      | none => rfl
      | some k => exact hsec k (.inl ho)
    · show (y.wp ++ [(n, c)]).map _ = (y.wp.map _) ++ [_]
      rw [List.map_append]
      congr 1
      · apply List.map_congr_left
        intro x hx
        simp only [Prod.mk.injEq, true_and]
        exact hsec x.2 (.inr ⟨x.1, hx⟩)
      · simp [hsc]
  · exact ((((Kept.of_below b3 y.foot).grown gr (fun k hk => .inl (.inr (.inr (.inr (.inl hk)))))).setCell (.inl (.inl rfl)) _).setCell (.inl (.inr (.inr (.inl rfl)))) _)
  · intro k hk
    have hsz := b3.size
    rcases hk with rfl | rfl | rfl | hk | hk | ⟨k', hk', hj⟩
    · exact .inl (.inl rfl)
    · exact .inl (.inr (.inl rfl))
    · exact .inl (.inr (.inr (.inl rfl)))
    · have hk2 : v2.ownBlock = some k := hk
      rcases hv2 with e | e
      · exact .inl (.inr (.inr (.inr (.inl (by rw [← e]; exact hk2)))))
      · rw [e] at hk2; injection hk2 with hk2; right; omega
    · rcases idk k hk with rfl | ⟨hk, _⟩
      · exact .inr hcw
      · exact .inl (.inr (.inr (.inr (.inr (.inl hk)))))
    · rcases idk k' hk' with rfl | ⟨hk', hne⟩
      · have e : (wrote y n k' v1 v2 l).bv k' = v1 := if_pos rfl
        rw [e] at hj
        exact .inr (own_lt own1 hj).1
      · have e : (wrote y n c v1 v2 l).bv k' = y.bv k' := if_neg hne
        rw [e] at hj
        exact .inl (.inr (.inr (.inr (.inr (.inr ⟨k', hk', hj⟩)))))
end Go.Proofs.YtpojlchikaffhaaDoor
namespace Go.Proofs.YtpojlchikaffhaaDoor
open Go.RowKit DiskP

/-- It tells an error or none; the disk goes on. -/
def RetErr (w : World) (base : Nat) (y : Lay) (k : Int) (S : Dsk) (e : Ending) (w' : World) : Prop := e = .returned (.int .i64 k) ∧ Next w base y S w'
def DiskP.Dsk.writeS (d : Dsk) (n : Int) (l : List UInt8) : Dsk := if d.writeE n l = 0 then d.write n.toNat l else d

theorem write_no (y : Lay) (n : Int) (l : List UInt8) (A : Option Addr) (cap : Nat) (w : World) (base : Nat) (h : DiskOK w base y) (_hl : l.length ≤ 9223372036854775807) (hno : y.abs.writeE n l ≠ 0) :
    Calls Tryd.prog 50 #[.pointer (some ⟨y.D, 0, none⟩), .int .i64 n, .slice A l.length cap] w (RetErr w base y (y.abs.writeE n l) y.abs) := by
  have h1 := hasB_abs y n
  have c0 := h.c0
  cases hh : hasB y n
  · have HR : Hid (y.abs.writeE n l = 1) := by show _ = _; unfold Dsk.writeE; rw [h1, hh]; rfl
    clear h1
    go_enter Tryd.func50, Tryd.ntmps50
    go_wp2_with fail
    refine (has_calls y n w base h).mono ?_
    rintro e w' ⟨rfl, rfl⟩
    rw [hh]
    go_wp2
    go_ret
    exact ⟨by rw [HR.out]; rfl, Next.same h⟩
  · by_cases hz : l.length = y.size
    · have hoff : y.off = true := by
        cases ho : y.off
        · refine absurd ?_ hno
          unfold Dsk.writeE
          have : y.abs.off = false := ho
          have e2 : y.abs.size = y.size := rfl
          rw [h1, hh, e2, this]
          simp [hz]
        · rfl
      have HR : Hid (y.abs.writeE n l = 10) := by
        show _ = _
        unfold Dsk.writeE
        have : y.abs.off = true := hoff
        have e2 : y.abs.size = y.size := rfl
        rw [h1, hh, e2, this]
        simp [hz]
      clear h1
      have c4 := h.c4
      rw [hoff] at c4
      have hne : ((l.length : Int) != (y.size : Int)) = false := by simp [hz]
      have Hz := Lib.hid hz
      clear hz
      go_enter Tryd.func50, Tryd.ntmps50
      go_wp2_with fail
      refine (has_calls y n w base h).mono ?_
      rintro e w' ⟨rfl, rfl⟩
      rw [hh]
      go_wp2
      go_ret
      exact ⟨by rw [HR.out]; rfl, Next.same h⟩
    · have HR : Hid (y.abs.writeE n l = 1) := by
        show _ = _
        unfold Dsk.writeE
        have e2 : y.abs.size = y.size := rfl
        rw [h1, hh, e2]
        simp [hz]
      clear h1
      have hne : ((l.length : Int) != (y.size : Int)) = true := by simp; omega
      go_enter Tryd.func50, Tryd.ntmps50
      go_wp2_with fail
      refine (has_calls y n w base h).mono ?_
      rintro e w' ⟨rfl, rfl⟩
      rw [hh]
      go_wp2
      go_ret
      exact ⟨by rw [HR.out]; rfl, Next.same h⟩

theorem write_yes (y : Lay) (n : Nat) (l : List UInt8) (A : Option Addr) (cap : Nat) (w : World) (base : Nat) (h : DiskOK w base y) (hR : RB w A l)
    (hn : n < y.lp.length) (hl : l.length = y.size) (ho : y.off = false) (hw : y.wp.length ≤ 1000000000) :
    Calls Tryd.prog 50 #[.pointer (some ⟨y.D, 0, none⟩), .int .i64 (n : Int), .slice A y.size cap] w (RetErr w base y 0 (y.abs.write n l)) := by
  have hh : hasB y (n : Int) = true := by simp [hasB]; omega
  have c0 := h.c0
  have c4 := h.c4
  rw [ho] at c4
  have hs2 := h.s2
  have Hl := Lib.hid hl
  clear hl
  have hne : ((y.size : Int) != (y.size : Int)) = false := by simp
  go_enter Tryd.func50, Tryd.ntmps50
  go_wp2_with fail
  refine (has_calls y n w base h).mono ?_
  rintro e w' ⟨rfl, rfl⟩
  rw [hh]
  go_wp2_with ((with_reducible show wpList _ _ _ (⟨some 28, _, _, _, _, _⟩ :: _) _ _); refine wpList_append_rv el_u8 rfl (.const (.slice none 0 0)) (.tmp 27) rfl w.heap.size _ 0 [] rfl (World.ownsRow_nil _ _ _ _) A y.size cap (cB l) rfl ?e1 hR (cB_one _) ?e2 ?e3 ?e4 ?_)
  case e1 => rw [cB_len, Nat.mul_one, Hl.out]
  case e2 => unfold maxLen; omega
  case e3 => omega
  case e4 => exact Nat.le_refl _
  intro v1 w1 own1 gr1 _
  have b1 : Below w.heap.size w w1 := (Below.refl _ _).grown gr1 (Nat.le_refl _) (fun k hk => by cases hk)
  have h1 := h.below b1
  obtain ⟨A1, cp1, hv1, _, _⟩ := own_form own1
  subst hv1
  have c3 : ∀ o, (w1.alloc o).cell? ⟨y.D, 3, none⟩ = some y.wv := fun o => (World.cell?_alloc_lt w1 o ⟨y.D, 3, none⟩ h1.dk.lt).trans h1.c3
  clear gr1 c4 c0
  have rv2 : ∀ (o : Obj) (a b : Value), RV ((w1.alloc o).alloc (.cells #[a, b] 91)) (some ⟨w1.heap.size + 1, 0, none⟩) [a, b] := by
    intro o a b
    have := RV.new (w1.alloc o) [a, b] 91 (0, 0)
    simpa using this
  go_wp2_with ((with_reducible show wpList _ _ _ (⟨some 40, _, _, _, _, _⟩ :: _) _ _); refine wpList_append_rv el_wr rfl (.tmp 35) (.tmp 39) rfl base y.wv y.wp.length (wcells y.wp) rfl ((h1.wk.alloc _).alloc _) (some ⟨w1.heap.size + 1, 0, none⟩) 1 1 [.int .i64 (n : Int), .pointer (some ⟨w1.heap.size, 0, none⟩)] rfl rfl (rv2 _ _ _) ?f3 ?f4 ?f5 ?f6 ?_)
  case f3 => intro u hu; simp at hu; rcases hu with rfl | rfl <;> rfl
  case f4 => unfold maxLen; omega
  case f5 => omega
  case f6 => have := h1.bD; have := h1.dk.lt; simp; omega
  intro v2 w4 own4 gr4 hv2
  obtain ⟨A2, cp2, hv2f, _, _⟩ := own_form own4
  have hb3 : Below w.heap.size w ((w1.alloc (.cells #[.slice A1 y.size cp1, .bool false, .bool false] 93)).alloc (.cells #[.int .i64 (n : Int), .pointer (some ⟨w1.heap.size, 0, none⟩)] 91)) :=
    (b1.alloc b1.size _).alloc (Nat.le_trans b1.size (by simp)) _
  have hcb : Blk ((w1.alloc (.cells #[.slice A1 y.size cp1, .bool false, .bool false] 93)).alloc (.cells #[.int .i64 (n : Int), .pointer (some ⟨w1.heap.size, 0, none⟩)] 91)) w1.heap.size 93 #[.slice A1 y.size cp1, .bool false, .bool false] :=
    (Blk.new w1 _ _).alloc _
  have HN := Lib.hid (write_ok h hb3 hn Hl.out hcb b1.size ((own1.alloc _).alloc _) own4 gr4 (by simpa using hv2))
  have hD : Blk w4 y.D 84 y.dcells := by
    have h3 := h.below hb3
    exact (gr4.block y.D h3.dk.lt (fun e => own_ne h3.wk e.symm h3.dk (by decide) rfl)).trans h3.dk
  have hTb : Blk w4 y.T 89 (y.tp.map ptrV).toArray := by
    have h3 := h.below hb3
    exact (gr4.block y.T h3.tk.lt (fun e => own_ne h3.wk e.symm h3.tk (by decide) rfl)).trans h3.tk
  have d2 : w4.cell? ⟨y.D, 2, none⟩ = some (.slice (some ⟨y.T, 0, none⟩) y.lp.length y.lp.length) := hD.at_ rfl
  have d3 : w4.cell? ⟨y.D, 3, none⟩ = some y.wv := hD.at_ rfl
  have z3 := hD.frozen 3
  obtain ⟨pv, t1⟩ : ∃ pv, w4.cell? ⟨y.T, n, none⟩ = some pv := by
    have hlt : n < y.tp.length := by rw [tp_len]; exact hn
    exact ⟨ptrV y.tp[n], hTb.at_ (by simp [hlt])⟩
  have zt := hTb.frozen n
  have hDT : y.D ≠ y.T := blk_ne h.dk h.tk (by decide)
  subst hv2f
  clear own4 gr4 hv2 hD hTb hcb hb3 rv2 c3 own1 b1 h1
  go_wp2
  go_ret
  exact ⟨rfl, HN.out⟩

theorem write_calls (y : Lay) (n : Int) (l : List UInt8) (A : Option Addr) (cap : Nat) (w : World) (base : Nat) (h : DiskOK w base y) (hR : RB w A l) (hl : l.length ≤ 9223372036854775807) (hw : y.wp.length ≤ 1000000000) :
    Calls Tryd.prog 50 #[.pointer (some ⟨y.D, 0, none⟩), .int .i64 n, .slice A l.length cap] w (RetErr w base y (y.abs.writeE n l) (y.abs.writeS n l)) := by
  by_cases hno : y.abs.writeE n l = 0
  · have hS : y.abs.writeS n l = y.abs.write n.toNat l := if_pos hno
    rw [hS, hno]
    have h1 := hasB_abs y n
    have hsz : y.abs.size = y.size := rfl
    have hof : y.abs.off = y.off := rfl
    unfold Dsk.writeE at hno
    rw [h1, hsz, hof] at hno
    cases hh : hasB y n
    · rw [hh] at hno; simp at hno
    · rw [hh] at hno
      obtain ⟨hn0, hn1⟩ : 0 ≤ n ∧ n < y.lp.length := by simpa [hasB] using hh
      obtain ⟨n, rfl⟩ := Int.eq_ofNat_of_zero_le hn0
      have hlen : l.length = y.size := by
        rcases Classical.em (l.length = y.size) with h | h
        · exact h
        · simp [h] at hno
      have hoff : y.off = false := by
        cases ho : y.off
        · rfl
        · simp [ho, hlen] at hno
      rw [hlen, Int.toNat_natCast]
      exact write_yes y n l A cap w base h hR (by omega) hlen hoff hw
  · have hS : y.abs.writeS n l = y.abs := if_neg hno
    rw [hS]
    exact write_no y n l A cap w base h hl hno
end Go.Proofs.YtpojlchikaffhaaDoor
namespace Go.Proofs.YtpojlchikaffhaaDoor
open Go.RowKit DiskP

theorem wcells_len (wp : List (Nat × Nat)) : (wcells wp).length = wp.length * 2 := by
  induction wp with
  | nil => rfl
  | cons x wp ih => show (_ ++ wcells wp).length = _; simp [ih]; omega
theorem wcells_get (wp : List (Nat × Nat)) (i : Nat) (x : Nat × Nat) (h : wp[i]? = some x) : (wcells wp)[i * 2]? = some (.int .i64 (x.1 : Int)) ∧ (wcells wp)[i * 2 + 1]? = some (.pointer (some ⟨x.2, 0, none⟩)) := by
  induction wp generalizing i with
  | nil => simp at h
  | cons z wp ih =>
    show ([.int .i64 (z.1 : Int), .pointer (some ⟨z.2, 0, none⟩)] ++ wcells wp)[i * 2]? = _ ∧ ([.int .i64 (z.1 : Int), .pointer (some ⟨z.2, 0, none⟩)] ++ wcells wp)[i * 2 + 1]? = _
    cases i with
    | zero => simp at h; subst h; simp
    | succ i =>
      have := ih i (by simpa using h)
      rw [show (i + 1) * 2 = i * 2 + 1 + 1 by omega]
      simpa using this
/-- The cells of a write that waits. -/
theorem DiskOK.wcell {w : World} {base : Nat} {y : Lay} (h : DiskOK w base y) {i : Nat} (hi : i < y.wp.length) : ∃ g cap, y.wv = .slice (some ⟨g, 0, none⟩) y.wp.length cap ∧ g < w.heap.size ∧
    w.cell? ⟨g, i * 2, none⟩ = some (.int .i64 ((y.wp[i]).1 : Int)) ∧ w.cell? ⟨g, i * 2 + 1, none⟩ = some (.pointer (some ⟨(y.wp[i]).2, 0, none⟩)) := by
  have hk := h.wk
  obtain ⟨A, c, hv, _, _⟩ := own_form hk
  rcases hk.2 with ⟨_, h0⟩ | ⟨g, cap, cur, hv', _, hg, _⟩
  · omega
  · have := wcells_get y.wp i y.wp[i] (List.getElem?_eq_getElem hi)
    rw [hv'] at hk
    refine ⟨g, cap, hv', lt_of_block hg, ?_, ?_⟩
    · rw [hk.cellAt _ (by omega)]; exact this.1
    · rw [hk.cellAt _ (by omega)]; exact this.2

theorem flush_off (y : Lay) (w : World) (base : Nat) (h : DiskOK w base y) (ho : y.off = true) :
    Calls Tryd.prog 45 #[.pointer (some ⟨y.D, 0, none⟩)] w (RetErr w base y 10 y.abs) := by
  have c4 := h.c4
  rw [ho] at c4
  go_enter Tryd.func45, Tryd.ntmps45
  go_wp2
  go_ret
  exact ⟨rfl, Next.same h⟩

/-- Where only the row of what lasts has turned. -/
structure Flushing (w : World) (base : Nat) (y : Lay) (k : Nat) (wr : World) : Prop where
  kept : Kept (fun j => j = y.L) w wr
  row : Blk wr y.L 89 ((applyW y.lp (someW (y.wp.take k))).map ptrV).toArray
theorem Flushing.other {w wr : World} {base : Nat} {y : Lay} {k : Nat} (_h : DiskOK w base y) (f : Flushing w base y k wr) {g : Nat} {t : TypeId} {cs : Array Value} (hb : Blk w g t cs) (ht : g ≠ y.L) : Blk wr g t cs :=
  (f.kept.block g hb.lt ht).trans hb
def flushed (y : Lay) : Lay := { y with lp := y.tp, wp := [], wv := .slice none 0 0 }
theorem flushed_ids {y : Lay} {c : Nat} (h : (flushed y).ids c) : y.ids c := by
  rcases h with h | ⟨n, h⟩
  · exact tp_ids y h
  · simp [flushed] at h
theorem tp_home {w : World} {base : Nat} {y : Lay} (h : DiskOK w base y) {i j c : Nat} (hi : y.tp[i]? = some (some c)) (hj : y.tp[j]? = some (some c)) : i = j := by
  have key : ∀ i, y.tp[i]? = some (some c) → (y.lp[i]? = some (some c)) ∨ (i, c) ∈ y.wp := by
    intro i hi
    have hlt : i < y.lp.length := by
      have := (List.getElem?_eq_some_iff.1 hi).1
      rwa [tp_len] at this
    have e := applyW_get y.lp (someW y.wp) i hlt
    have e2 : y.tp[i]? = some ((lastW (someW y.wp) i).getD y.lp[i]) := e
    rw [hi] at e2
    injection e2 with e2
    cases hl : lastW (someW y.wp) i with
    | none =>
      rw [hl] at e2
      left
      rw [List.getElem?_eq_getElem hlt]
      exact congrArg some e2.symm
    | some o =>
      rw [hl] at e2
      simp only [Option.getD_some] at e2
      subst e2
      rw [lastW_idx] at hl
      cases hx : lastIdx (someW y.wp) i with
      | none => rw [hx] at hl; cases hl
      | some m =>
        rw [hx] at hl
        obtain ⟨z, hz⟩ := lastIdx_lt hx
        simp only [Option.bind_some, hz, Option.map_some] at hl
        injection hl with hl
        subst hl
        have := List.mem_of_getElem? hz
        simp only [someW, List.mem_map] at this
        obtain ⟨x, hx, he⟩ := this
        injection he with h1 h2
        injection h2 with h2
        right
        rw [← h1, ← h2]
        exact hx
  rcases key i hi with hi | hi <;> rcases key j hj with hj | hj
  · exact h.n1 i j c hi hj
  · exact (h.n3 c j (List.mem_of_getElem? hi) hj).elim
  · exact (h.n3 c i (List.mem_of_getElem? hj) hi).elim
  · obtain ⟨a, ha⟩ := List.getElem?_of_mem hi
    obtain ⟨b, hb⟩ := List.getElem?_of_mem hj
    have := h.n2 a b i j c ha hb
    subst this
    rw [ha] at hb
    injection hb with hb
    injection hb with hb _
theorem flush_ok {w wr : World} {base : Nat} {y : Lay} (h : DiskOK w base y) (_ho : y.off = false) (f : Flushing w base y y.wp.length wr) :
    Next w base y y.abs.flush (wr.setCell ⟨y.D, 3, none⟩ (.slice none 0 0)) := by
  have row : Blk wr y.L 89 (y.tp.map ptrV).toArray := by
    have := f.row
    rw [List.take_length] at this
    exact this
  have hLD : y.L ≠ y.D := blk_ne h.lk h.dk (by decide)
  have keep : ∀ k, k < w.heap.size → k ≠ y.L → k ≠ y.D → (wr.setCell ⟨y.D, 3, none⟩ (.slice none 0 0)).heap[k]? = w.heap[k]? := by
    intro k hk h1 h2
    rw [heap_setCell_other _ _ _ _ h2]
    exact f.kept.block k hk h1
  have hD := f.other h h.dk hLD.symm
  refine ⟨flushed y, ?_, ?_, rfl, (f.kept.mono (fun k _ hk => .inr (.inl hk))).setCell (.inl (.inl rfl)) _, ?_⟩
  · exact {
      dk := by
        have := hD.set_ 3 (.slice none 0 0)
        have e : (flushed y).dcells = y.dcells.setIfInBounds 3 (.slice none 0 0) := by simp [flushed, Lay.dcells, tp_len]
        rw [e]
        exact this
      lk := row.far (p := ⟨y.D, 3, none⟩) hLD _
      tk := (keep y.T h.tk.lt (fun e => h.lt e.symm) (blk_ne h.tk h.dk (by decide))).trans h.tk
      wk := World.ownsRow_nil _ _ _ _
      ck := fun c hc => by
        have hck := h.ck c (flushed_ids hc)
        exact (keep c hck.lt (blk_ne hck h.lk (by decide)) (blk_ne hck h.dk (by decide))).trans hck
      bk := fun c hc => by
        have hbk := h.bk c (flushed_ids hc)
        show BytesOK _ _ y.size (y.bv c) (y.sect c).bytes
        cases hs : (y.sect c).bytes with
        | none => rw [hs] at hbk; exact hbk
        | some m =>
          rw [hs] at hbk
          exact ⟨hbk.1, own_frame hbk.2 fun j hj => keep j (own_lt hbk.2 hj).2 (own_ne hbk.2 hj h.lk (by decide)) (own_ne hbk.2 hj h.dk (by decide))⟩
      bD := h.bD
      bL := h.bL
      bT := h.bT
      bc := fun c hc => h.bc c (flushed_ids hc)
      n1 := fun i j c hi hj => tp_home h hi hj
      n2 := fun i j n m c hi _ => by simp [flushed] at hi
      n3 := fun c n _ hn => by simp [flushed] at hn
      nb := fun c c' k hc hc' => h.nb c c' k (flushed_ids hc) (flushed_ids hc')
      lt := h.lt
      wr := fun n c hn => by simp [flushed] at hn
      s1 := h.s1
      s2 := h.s2
      l1 := by show 1 ≤ y.tp.length; rw [tp_len]; exact h.l1
      l2 := by show y.tp.length ≤ 65536; rw [tp_len]; exact h.l2 }
  · show Dsk.mk _ _ _ _ = Dsk.mk _ _ _ _
    congr 1
    exact (abs_told y).symm
  · intro k hk
    rcases hk with rfl | rfl | rfl | hk | hk | ⟨c, hc, hk⟩
    · exact .inl (.inl rfl)
    · exact .inl (.inr (.inl rfl))
    · exact .inl (.inr (.inr (.inl rfl)))
    · cases hk
    · exact .inl (.inr (.inr (.inr (.inr (.inl (flushed_ids hk))))))
    · exact .inl (.inr (.inr (.inr (.inr (.inr ⟨c, flushed_ids hc, hk⟩)))))
theorem flush_on (y : Lay) (w : World) (base : Nat) (h : DiskOK w base y) (ho : y.off = false) (hw : y.wp.length ≤ 1000000000) :
    Calls Tryd.prog 45 #[.pointer (some ⟨y.D, 0, none⟩)] w (RetErr w base y 0 y.abs.flush) := by
  have c4 := h.c4
  rw [ho] at c4
  have c3 := h.c3
  obtain ⟨A, cp, hv, _, _⟩ := own_form h.wk
  rw [hv] at c3
  go_enter Tryd.func45, Tryd.ntmps45
  go_wp2
  go_loopw [4, 16] (fun _ i wr => ∃ k : Nat, k ≤ y.wp.length ∧ i = .int .i64 k ∧ Flushing w base y k wr) (fun _ i _ => y.wp.length - (intOf i).toNat)
  case atStart => exact ⟨0, by omega, rfl, Kept.refl _ _, h.lk⟩
  case round =>
    obtain ⟨k, hk, rfl, f⟩ := hrel
    have hLD : y.D ≠ y.L := blk_ne h.dk h.lk (by decide)
    have hD := f.other h h.dk hLD
    by_cases hlt : k < y.wp.length
    · obtain ⟨g, cap, hv', hg, k0, k1⟩ := h.wcell hlt
      have hvv := hv.symm.trans hv'
      injection hvv with hA _ hcp
      subst hA
      subst hcp
      have hgL : g ≠ y.L := own_ne h.wk (by rw [hv']; rfl) h.lk (by decide)
      have k0' : wr.cell? ⟨g, k * 2, none⟩ = some (.int .i64 ((y.wp[k]).1 : Int)) := (World.cell?_of_block (w := w) (f.kept.block g hg hgL)).trans k0
      have k1' : wr.cell? ⟨g, k * 2 + 1, none⟩ = some (.pointer (some ⟨(y.wp[k]).2, 0, none⟩)) := (World.cell?_of_block (w := w) (f.kept.block g hg hgL)).trans k1
      have hS := applyW_length y.lp (someW (y.wp.take k))
      have hwr : (y.wp[k]).1 < y.lp.length := h.wr _ (y.wp[k]).2 (List.getElem_mem hlt)
      have HT : Hid (applyW y.lp (someW (y.wp.take (k + 1))) = (applyW y.lp (someW (y.wp.take k))).set (y.wp[k]).1 (some (y.wp[k]).2)) := by
        show _ = _
        rw [List.take_succ_eq_append_getElem hlt]
        have : someW (y.wp.take k ++ [y.wp[k]]) = someW (y.wp.take k) ++ [((y.wp[k]).1, some (y.wp[k]).2)] := by unfold someW; rw [List.map_append]; rfl
        rw [this, toldW_snoc]
      generalize y.wp[k] = x at *
      obtain ⟨n, c⟩ := x
      simp only at k0' k1' hwr HT
      have d1 : wr.cell? ⟨y.D, 1, none⟩ = some (.slice (some ⟨y.L, 0, none⟩) y.lp.length y.lp.length) := hD.at_ rfl
      have hDl := hD.lt
      have hLl := f.row.lt
      obtain ⟨pv, cL⟩ : ∃ pv, wr.cell? ⟨y.L, n, none⟩ = some pv := by
        have hlt : n < (applyW y.lp (someW (y.wp.take k))).length := by rw [hS]; exact hwr
        exact ⟨ptrV (applyW y.lp (someW (y.wp.take k)))[n], f.row.at_ (by simp [hlt])⟩
      have zL := f.row.frozen n
      clear k0 k1 c3 c4 hS hv hv' hD
      go_wp2
      go_region
      go_wp2
      go_roundw
      case rel =>
        refine ⟨k + 1, by omega, by go_num, (((f.kept.setCell (.inl rfl) _).alloc _).drew), ?_⟩
        have := (f.row.set_ n (.pointer (some ⟨c, 0, none⟩))).alloc (.cells #[.int .i64 (n : Int), .pointer (some ⟨c, 0, none⟩)] 91)
        rw [HT.out]
        have e : (((applyW y.lp (someW (y.wp.take k))).map ptrV).toArray).setIfInBounds n (.pointer (some ⟨c, 0, none⟩)) = (((applyW y.lp (someW (y.wp.take k))).set n (some c)).map ptrV).toArray := by simp [ptrV]
        rw [e] at this
        exact this
      case measure => simp [intOf]; omega
    · obtain rfl : k = y.wp.length := by omega
      have hDl := hD.lt
      have d3 : wr.cell? ⟨y.D, 3, none⟩ = some y.wv := hD.at_ rfl
      have z3 := hD.frozen 3
      have HN := Lib.hid (flush_ok h ho f)
      clear hv
      go_wp2
      go_ret
      exact ⟨rfl, HN.out⟩
end Go.Proofs.YtpojlchikaffhaaDoor
namespace Go.Proofs.YtpojlchikaffhaaDoor
open Go.RowKit DiskP

def cL (l : List Bool) : List Value := l.map Value.bool
theorem cL_len (l : List Bool) : (cL l).length = l.length := by simp [cL]
/-- What is read lies in none of those blocks. -/
def RVF (w : World) (F : Nat → Prop) (A : Option Addr) (vs : List Value) : Prop :=
  vs ≠ [] → ∃ b off, A = some ⟨b, off, none⟩ ∧ b < w.heap.size ∧ ¬ F b ∧ ∀ j v, vs[j]? = some v → w.cell? ⟨b, off + j, none⟩ = some v
theorem RVF.of_low {w : World} {base : Nat} {F : Nat → Prop} {A : Option Addr} {vs : List Value} (h : RV w A vs) (hb : ∀ b off, A = some ⟨b, off, none⟩ → b < base) (hF : ∀ k, F k → base ≤ k) : RVF w F A vs := by
  intro hne
  obtain ⟨b, off, e, h1, h2⟩ := h hne
  exact ⟨b, off, e, h1, fun hf => by have := hF b hf; have := hb b off e; omega, h2⟩
theorem RVF.nil {w : World} {F : Nat → Prop} {A : Option Addr} : RVF w F A [] := fun h => absurd rfl h
theorem RVF.rv {w : World} {F : Nat → Prop} {A : Option Addr} {vs : List Value} (h : RVF w F A vs) : RV w A vs := fun hne => by
  obtain ⟨b, off, e, h1, _, h2⟩ := h hne
  exact ⟨b, off, e, h1, h2⟩
theorem RVF.kept {w w' : World} {F : Nat → Prop} {A : Option Addr} {vs : List Value} (h : RVF w F A vs) (hk : Kept F w w') : RVF w' F A vs := fun hne => by
  obtain ⟨b, off, e, h1, h2, h3⟩ := h hne
  exact ⟨b, off, e, Nat.lt_of_lt_of_le h1 hk.size, h2, fun j v hj => (World.cell?_of_block (w := w) (hk.block b h1 h2)).trans (h3 j v hj)⟩
theorem RVF.mono {w : World} {F G : Nat → Prop} {A : Option Addr} {vs : List Value} (h : RVF w F A vs) (hG : ∀ k, k < w.heap.size → G k → F k) : RVF w G A vs := fun hne => by
  obtain ⟨b, off, e, h1, h2, h3⟩ := h hne
  exact ⟨b, off, e, h1, fun g => h2 (hG b h1 g), h3⟩
theorem RVF.below {w w' : World} {F : Nat → Prop} {A : Option Addr} {vs : List Value} (h : RVF w F A vs) (hb : Below w.heap.size w w') : RVF w' F A vs := h.kept (Kept.of_below hb F)

theorem ptr_row_at {l : List (Option Nat)} {n : Nat} (h : n < l.length) : ((l.map ptrV).toArray)[n]? = some (ptrV (l.getD n none)) := by simp [List.getD, h]
theorem cut_off (y : Lay) (A : Option Addr) (len cap : Nat) (torn : Int) (w : World) (base : Nat) (h : DiskOK w base y) (ho : y.off = true) :
    Calls Tryd.prog 23 #[.pointer (some ⟨y.D, 0, none⟩), .slice A len cap, .int .i64 torn] w fun e w' => e = .returned (.tuple #[]) ∧ w = w' := by
  have c4 := h.c4
  rw [ho] at c4
  go_enter Tryd.func23, Tryd.ntmps23
  go_wp2
  refine bodyPost_ret (results_none rfl _ _ _) rfl ?_
  exact ⟨rfl, rfl⟩

/-- The pointers that last behind the first k writes. -/
def cutP (y : Lay) (keep : List Bool) (torn : Int) (tb k : Nat) : List (Option Nat) := applyW y.lp (keepW keep torn (some tb) 0 (someW (y.wp.take k)))
structure Cutting (w : World) (y : Lay) (keep : List Bool) (torn : Int) (tb k : Nat) (wr : World) : Prop where
  kept : Kept (fun j => j = y.L) w wr
  row : Blk wr y.L 89 ((cutP y keep torn tb k).map ptrV).toArray
  new : w.heap.size ≤ tb
  tear : 0 ≤ torn → torn < k → Blk wr tb 93 #[.slice none 0 0, .bool true, .bool false]

theorem Cutting.other {w wr : World} {base : Nat} {y : Lay} {keep : List Bool} {torn : Int} {tb k : Nat} (f : Cutting w y keep torn tb k wr) (_h : DiskOK w base y) {g : Nat} {t : TypeId} {cs : Array Value} (hb : Blk w g t cs) (ht : g ≠ y.L) : Blk wr g t cs :=
  (f.kept.block g hb.lt ht).trans hb
theorem Cutting.skip {w wr : World} {y : Lay} {keep : List Bool} {torn : Int} {tb k n c : Nat} (f : Cutting w y keep torn tb k wr) (ht : ¬ (k : Int) = torn)
    (hT : cutP y keep torn tb (k + 1) = applyW (cutP y keep torn tb k) (keep1 keep torn (some tb) k (n, some c))) (hk : keep.getD k false = false) (o : Obj) : Cutting w y keep torn tb (k + 1) (wr.alloc o) := by
  have e : keep1 keep torn (some tb) k (n, some c) = [] := by unfold keep1; rw [if_neg ht, hk]; rfl
  refine ⟨f.kept.alloc o, ?_, f.new, fun h0 h1 => (f.tear h0 (by omega)).alloc o⟩
  rw [hT, e]
  exact f.row.alloc o
theorem Cutting.keep_ {w wr : World} {base : Nat} {y : Lay} {keep : List Bool} {torn : Int} {tb k n c : Nat} (f : Cutting w y keep torn tb k wr) (h : DiskOK w base y) (ht : ¬ (k : Int) = torn)
    (hT : cutP y keep torn tb (k + 1) = applyW (cutP y keep torn tb k) (keep1 keep torn (some tb) k (n, some c))) (hk : keep.getD k false = true) (o : Obj) :
    Cutting w y keep torn tb (k + 1) (((wr.setCell ⟨y.L, n, none⟩ (.pointer (some ⟨c, 0, none⟩))).alloc o).drew) := by
  have e : keep1 keep torn (some tb) k (n, some c) = [(n, some c)] := by unfold keep1; rw [if_neg ht, hk]; rfl
  have htb : tb ≠ y.L := by have := f.new; have := h.lk.lt; omega
  refine ⟨((f.kept.setCell (.inl rfl) _).alloc o).drew, ?_, f.new, fun h0 h1 => ((f.tear h0 (by omega)).far (p := ⟨y.L, n, none⟩) htb _).alloc o⟩
  rw [hT, e]
  have := (f.row.set_ n (.pointer (some ⟨c, 0, none⟩))).alloc o
  have e2 : (((cutP y keep torn tb k).map ptrV).toArray).setIfInBounds n (.pointer (some ⟨c, 0, none⟩)) = ((applyW (cutP y keep torn tb k) [(n, some c)]).map ptrV).toArray := by
    show _ = ((((cutP y keep torn tb k).set n (some c))).map ptrV).toArray
    simp [ptrV]
  rw [e2] at this
  exact this
theorem Cutting.torn_ {w wr : World} {base : Nat} {y : Lay} {keep : List Bool} {torn : Int} {tb k n c : Nat} {o : Obj} (f : Cutting w y keep torn tb k wr) (_h : DiskOK w base y) (ht : (k : Int) = torn)
    (hT : cutP y keep torn (wr.heap.size + 1) (k + 1) = applyW (cutP y keep torn (wr.heap.size + 1) k) (keep1 keep torn (some (wr.heap.size + 1)) k (n, some c))) :
    Cutting w y keep torn (wr.heap.size + 1) (k + 1) ((((wr.setCell ⟨y.L, n, none⟩ (.pointer (some ⟨wr.heap.size + 1, 0, none⟩))).alloc o).alloc (.cells #[.slice none 0 0, .bool true, .bool false] 93)).drew) := by
  have e : keep1 keep torn (some (wr.heap.size + 1)) k (n, some c) = [(n, some (wr.heap.size + 1))] := by unfold keep1; rw [if_pos ht]
  have hz : cutP y keep torn (wr.heap.size + 1) k = cutP y keep torn tb k := by
    unfold cutP
    rw [keepW_z keep torn _ (some tb)]
    have : (someW (y.wp.take k)).length ≤ k := by simp [someW]; omega
    omega
  have hsz := f.kept.size
  refine ⟨(((f.kept.setCell (.inl rfl) _).alloc _).alloc _).drew, ?_, by omega, fun _ _ => ?_⟩
  · rw [hT, e, hz]
    have := ((f.row.set_ n (.pointer (some ⟨wr.heap.size + 1, 0, none⟩))).alloc o).alloc (.cells #[.slice none 0 0, .bool true, .bool false] 93)
    have e2 : (((cutP y keep torn tb k).map ptrV).toArray).setIfInBounds n (.pointer (some ⟨wr.heap.size + 1, 0, none⟩)) = ((applyW (cutP y keep torn tb k) [(n, some (wr.heap.size + 1))]).map ptrV).toArray := by
      show _ = ((((cutP y keep torn tb k).set n (some (wr.heap.size + 1)))).map ptrV).toArray
      simp [ptrV]
    rw [e2] at this
    exact this
  · have := Blk.new ((wr.setCell ⟨y.L, n, none⟩ (.pointer (some ⟨wr.heap.size + 1, 0, none⟩))).alloc o) 93 #[.slice none 0 0, .bool true, .bool false]
    refine Blk.drew ?_
    simpa using this

structure Telling (w2 : World) (y : Lay) (lp' : List (Option Nat)) (j : Nat) (wr : World) : Prop where
  kept : Kept (fun k => k = y.T) w2 wr
  row : Blk wr y.T 89 ((applyW y.tp ((y.wp.take j).map fun x => (x.1, lp'.getD x.1 none))).map ptrV).toArray

def cutL (y : Lay) (lp' : List (Option Nat)) (tb : Nat) : Lay :=
  { y with lp := lp', wp := [], wv := .slice none 0 0, off := true, sect := fun k => if k = tb then tornS else y.sect k, bv := fun k => if k = tb then .slice none 0 0 else y.bv k }
theorem cutP_mem {y : Lay} {keep : List Bool} {torn : Int} {tb k c : Nat} (h : some c ∈ cutP y keep torn tb k) : y.ids c ∨ c = tb := by
  have key : ∀ (ws : List (Nat × Option Nat)) (l : List (Option Nat)), some c ∈ applyW l ws → some c ∈ l ∨ ∃ n, (n, some c) ∈ ws := by
    intro ws
    induction ws with
    | nil => intro l h; exact .inl h
    | cons x ws ih =>
      intro l h
      rcases ih (l.set x.1 x.2) h with h | ⟨n, h⟩
      · rcases List.mem_or_eq_of_mem_set h with h | h
        · exact .inl h
        · exact .inr ⟨x.1, by rw [h]; simp⟩
      · exact .inr ⟨n, by simp [h]⟩
  rcases key _ _ h with h | ⟨n, h⟩
  · exact .inl (.inl h)
  · rcases keepW_mem h with h | ⟨h, _⟩
    · simp only [someW, List.mem_map] at h
      obtain ⟨x, hx, he⟩ := h
      injection he with h1 h2
      injection h2 with h2
      exact .inl (.inr ⟨x.1, by rw [← h2]; exact List.mem_of_mem_take hx⟩)
    · injection h with h
      exact .inr h
theorem cutP_get {w : World} {base : Nat} {y : Lay} (_h : DiskOK w base y) {keep : List Bool} {torn : Int} {tb i c : Nat} (hi : (cutP y keep torn tb y.wp.length)[i]? = some (some c)) :
    y.lp[i]? = some (some c) ∨ (i, c) ∈ y.wp ∨ (c = tb ∧ ∃ m a, ((m : Nat) : Int) = torn ∧ y.wp[m]? = some (i, a)) := by
  have hlt : i < y.lp.length := by
    have := (List.getElem?_eq_some_iff.1 hi).1
    rwa [show (cutP y keep torn tb y.wp.length).length = y.lp.length from applyW_length _ _] at this
  have e := applyW_get y.lp (keepW keep torn (some tb) 0 (someW (y.wp.take y.wp.length))) i hlt
  rw [show (applyW y.lp (keepW keep torn (some tb) 0 (someW (y.wp.take y.wp.length))))[i]? = some (some c) from hi] at e
  injection e with e
  cases hl : lastW (keepW keep torn (some tb) 0 (someW (y.wp.take y.wp.length))) i with
  | none =>
    rw [hl] at e
    left
    rw [List.getElem?_eq_getElem hlt]
    exact congrArg some e.symm
  | some o =>
    rw [hl] at e
    simp only [Option.getD_some] at e
    subst e
    right
    have hm := lastW_mem hl
    rw [List.take_length] at hm
    rcases keepW_mem hm with hm | ⟨h2, m, hm1, a, hm2⟩
    · left
      simp only [someW, List.mem_map] at hm
      obtain ⟨x, hx, he⟩ := hm
      injection he with h1 h2
      injection h2 with h2
      rw [← h1, ← h2]
      exact hx
    · right
      injection h2 with h2
      refine ⟨h2, m, ?_⟩
      simp only [someW, List.getElem?_map] at hm2
      cases hw : y.wp[m]? with
      | none => rw [hw] at hm2; cases hm2
      | some x =>
        rw [hw] at hm2
        simp only [Option.map_some] at hm2
        injection hm2 with hm2
        injection hm2 with h3 h4
        exact ⟨x.2, by omega, by rw [← h3]⟩
theorem cut_ok {w w2 wr : World} {base : Nat} {y : Lay} {keep : List Bool} {torn : Int} {tb : Nat} (h : DiskOK w base y) (ho : y.off = false) (f : Cutting w y keep torn tb y.wp.length w2)
    (q : Telling w2 y (cutP y keep torn tb y.wp.length) y.wp.length wr) :
    Next w base y (y.abs.cut keep torn) ((wr.setCell ⟨y.D, 3, none⟩ (.slice none 0 0)).setCell ⟨y.D, 4, none⟩ (.bool true)) := by
  have hbw : base ≤ w.heap.size := Nat.le_trans h.bD (Nat.le_of_lt h.dk.lt)
  have hLD : y.D ≠ y.L := blk_ne h.dk h.lk (by decide)
  have hDT : y.D ≠ y.T := blk_ne h.dk h.tk (by decide)
  have hcl : (cutP y keep torn tb y.wp.length).length = y.lp.length := applyW_length _ _
  have keep2 : ∀ k, k < w2.heap.size → k ≠ y.T → k ≠ y.D → ((wr.setCell ⟨y.D, 3, none⟩ (.slice none 0 0)).setCell ⟨y.D, 4, none⟩ (.bool true)).heap[k]? = w2.heap[k]? := by
    intro k hk h1 h2
    rw [heap_setCell_other _ _ _ _ h2, heap_setCell_other _ _ _ _ h2]
    exact q.kept.block k hk h1
  have kp : ∀ k, k < w.heap.size → k ≠ y.L → k ≠ y.T → k ≠ y.D → ((wr.setCell ⟨y.D, 3, none⟩ (.slice none 0 0)).setCell ⟨y.D, 4, none⟩ (.bool true)).heap[k]? = w.heap[k]? := by
    intro k hk h0 h1 h2
    rw [keep2 k (Nat.lt_of_lt_of_le hk f.kept.size) h1 h2]
    exact f.kept.block k hk h0
  have hD2 := f.other h h.dk hLD
  have hD : Blk wr y.D 84 y.dcells := (q.kept.block _ hD2.lt hDT).trans hD2
  have hrow : Blk wr y.T 89 ((cutP y keep torn tb y.wp.length).map ptrV).toArray := by
    have := q.row
    rw [List.take_length] at this
    have e := retold y.lp (cutP y keep torn tb y.wp.length) (someW y.wp) (keepW keep torn (some tb) 0 (someW y.wp)) (by unfold cutP; rw [List.take_length]) (fun x hx => keepW_sect hx) none
    have e2 : (someW y.wp).map (fun x => (x.1, (cutP y keep torn tb y.wp.length).getD x.1 none)) = y.wp.map (fun x => (x.1, (cutP y keep torn tb y.wp.length).getD x.1 none)) := by simp [someW]
    rw [e2] at e
    have e3 : applyW y.tp (y.wp.map (fun x => (x.1, (cutP y keep torn tb y.wp.length).getD x.1 none))) = cutP y keep torn tb y.wp.length := e
    rw [e3] at this
    exact this
  have ntb : ∀ c, y.ids c → c ≠ tb := fun c hc e => by have := (h.ck c hc).lt; have := f.new; omega
  have idk : ∀ c, (cutL y (cutP y keep torn tb y.wp.length) tb).ids c → (c ≠ tb ∧ y.ids c) ∨ (c = tb ∧ 0 ≤ torn ∧ torn < y.wp.length) := by
    intro c hc
    rcases hc with hc | ⟨n, hc⟩
    · have hc : some c ∈ cutP y keep torn tb y.wp.length := hc
      obtain ⟨i, hi⟩ := List.getElem?_of_mem hc
      rcases cutP_get h hi with hi | hi | ⟨rfl, m, a, hm, hw⟩
      · exact .inl ⟨ntb c (.inl (List.mem_of_getElem? hi)), .inl (List.mem_of_getElem? hi)⟩
      · exact .inl ⟨ntb c (.inr ⟨i, hi⟩), .inr ⟨i, hi⟩⟩
      · have := (List.getElem?_eq_some_iff.1 hw).1
        exact .inr ⟨rfl, by omega, by omega⟩
    · simp [cutL] at hc
  refine ⟨cutL y (cutP y keep torn tb y.wp.length) tb, ?_, ?_, rfl, ?_, ?_⟩
  · exact {
      dk := by
        have := (hD.set_ 3 (.slice none 0 0)).set_ 4 (.bool true)
        have e : (cutL y (cutP y keep torn tb y.wp.length) tb).dcells = (y.dcells.setIfInBounds 3 (.slice none 0 0)).setIfInBounds 4 (.bool true) := by simp [cutL, Lay.dcells, hcl]
        rw [e]
        exact this
      lk := (keep2 y.L f.row.lt h.lt (fun e => hLD e.symm)).trans f.row
      tk := (hrow.far (p := ⟨y.D, 3, none⟩) hDT.symm _).far (p := ⟨y.D, 4, none⟩) hDT.symm _
      wk := World.ownsRow_nil _ _ _ _
      ck := fun c hc => by
        rcases idk c hc with ⟨hne, hc⟩ | ⟨rfl, h0, h1⟩
        · have e : (cutL y (cutP y keep torn tb y.wp.length) tb).bv c = y.bv c := if_neg hne
          have e2 : (cutL y (cutP y keep torn tb y.wp.length) tb).sect c = y.sect c := if_neg hne
          rw [e, e2]
          have hck := h.ck c hc
          exact (kp c hck.lt (blk_ne hck h.lk (by decide)) (blk_ne hck h.tk (by decide)) (blk_ne hck h.dk (by decide))).trans hck
        · have e : (cutL y (cutP y keep torn c y.wp.length) c).bv c = .slice none 0 0 := if_pos rfl
          have e2 : (cutL y (cutP y keep torn c y.wp.length) c).sect c = tornS := if_pos rfl
          rw [e, e2]
          have ht := f.tear h0 (by omega)
          exact (keep2 c ht.lt (by have := h.tk.lt; have := f.new; omega) (by have := h.dk.lt; have := f.new; omega)).trans ht
      bk := fun c hc => by
        rcases idk c hc with ⟨hne, hc⟩ | ⟨rfl, h0, h1⟩
        · have e : (cutL y (cutP y keep torn tb y.wp.length) tb).bv c = y.bv c := if_neg hne
          have e2 : (cutL y (cutP y keep torn tb y.wp.length) tb).sect c = y.sect c := if_neg hne
          rw [e, e2]
          have hbk := h.bk c hc
          show BytesOK _ _ y.size (y.bv c) (y.sect c).bytes
          cases hs : (y.sect c).bytes with
          | none => rw [hs] at hbk; exact hbk
          | some m =>
            rw [hs] at hbk
            exact ⟨hbk.1, own_frame hbk.2 fun j hj => kp j (own_lt hbk.2 hj).2 (own_ne hbk.2 hj h.lk (by decide)) (own_ne hbk.2 hj h.tk (by decide)) (own_ne hbk.2 hj h.dk (by decide))⟩
        · have e : (cutL y (cutP y keep torn c y.wp.length) c).bv c = .slice none 0 0 := if_pos rfl
          have e2 : (cutL y (cutP y keep torn c y.wp.length) c).sect c = tornS := if_pos rfl
          rw [e, e2]
          rfl
      bD := h.bD
      bL := h.bL
      bT := h.bT
      bc := fun c hc => by
        rcases idk c hc with ⟨_, hc⟩ | ⟨rfl, _, _⟩
        · exact h.bc c hc
        · have := f.new; omega
      n1 := fun i j c hi hj => by
        have hi : (cutP y keep torn tb y.wp.length)[i]? = some (some c) := hi
        have hj : (cutP y keep torn tb y.wp.length)[j]? = some (some c) := hj
        have nw : ∀ {i : Nat}, (i, c) ∈ y.wp → c ≠ tb := fun hw => ntb c (.inr ⟨_, hw⟩)
        have nl : ∀ {i : Nat}, y.lp[i]? = some (some c) → c ≠ tb := fun hl => ntb c (.inl (List.mem_of_getElem? hl))
        rcases cutP_get h hi with hi | hi | ⟨rfl, m, a, hm, hw⟩ <;> rcases cutP_get h hj with hj | hj | ⟨e, m', a', hm', hw'⟩
        · exact h.n1 i j c hi hj
        · exact (h.n3 c j (List.mem_of_getElem? hi) hj).elim
        · exact absurd e (nl hi)
        · exact (h.n3 c i (List.mem_of_getElem? hj) hi).elim
        · obtain ⟨a, ha⟩ := List.getElem?_of_mem hi
          obtain ⟨b, hb⟩ := List.getElem?_of_mem hj
          have := h.n2 a b i j c ha hb
          subst this
          rw [ha] at hb
          injection hb with hb
          injection hb with hb _
        · exact absurd e (nw hi)
        · exact absurd rfl (nl hj)
        · exact absurd rfl (nw hj)
        · have : m = m' := by omega
          subst this
          rw [hw] at hw'
          injection hw' with hw'
          injection hw' with hw' _
      n2 := fun i j n m c hi _ => by simp [cutL] at hi
      n3 := fun c n _ hn => by simp [cutL] at hn
      nb := fun c c' k hc hc' hk hk' => by
        have bvt : (cutL y (cutP y keep torn tb y.wp.length) tb).bv tb = .slice none 0 0 := if_pos rfl
        have bvn : ∀ c, c ≠ tb → (cutL y (cutP y keep torn tb y.wp.length) tb).bv c = y.bv c := fun c hne => if_neg hne
        rcases idk c hc with ⟨hne, h1⟩ | ⟨e, _, _⟩
        · rcases idk c' hc' with ⟨hne', h1'⟩ | ⟨e, _, _⟩
          · rw [bvn _ hne] at hk
            rw [bvn _ hne'] at hk'
            exact h.nb c c' k h1 h1' hk hk'
          · rw [e, bvt] at hk'; cases hk'
        · rw [e, bvt] at hk; cases hk
      lt := h.lt
      wr := fun n c hn => by simp [cutL] at hn
      s1 := h.s1
      s2 := h.s2
      l1 := by show 1 ≤ (cutP y keep torn tb y.wp.length).length; rw [hcl]; exact h.l1
      l2 := by show (cutP y keep torn tb y.wp.length).length ≤ 65536; rw [hcl]; exact h.l2 }
  · have hoff : y.abs.off = false := ho
    unfold Dsk.cut
    rw [hoff, if_neg (by decide)]
    show Dsk.mk _ _ _ _ = Dsk.mk _ _ _ _
    congr 1
    obtain ⟨sg, hsg⟩ : ∃ sg : Nat → Sect, sg = (fun k => if k = tb then tornS else y.sect k) := ⟨_, rfl⟩
    have s1 : ∀ c, c ≠ tb → sg c = y.sect c := fun c hc => by rw [hsg]; exact if_neg hc
    have s2 : sg tb = tornS := by rw [hsg]; exact if_pos rfl
    have e1 : y.abs.last = y.lp.map (ptrS y.size sg) := by
      apply List.map_congr_left
      intro o hoo
      cases o with
      | none => rfl
      | some c => exact (s1 c (ntb c (.inl hoo))).symm
    have e2 : y.abs.wait = (someW y.wp).map (fun x => (x.1, ptrS y.size sg x.2)) := by
      show y.wp.map _ = _
      unfold someW
      rw [List.map_map]
      apply List.map_congr_left
      intro x hx
      show (x.1, y.sect x.2) = (x.1, sg x.2)
      rw [s1 x.2 (ntb x.2 (.inr ⟨x.1, hx⟩))]
    have e3 : tornS = ptrS y.size sg (some tb) := s2.symm
    rw [e1, e2, e3, keepW_map, applyW_map]
    show (cutP y keep torn tb y.wp.length).map (ptrS y.size (fun k => if k = tb then tornS else y.sect k)) = _
    rw [← hsg]
    unfold cutP
    rw [List.take_length]
  · exact (((f.kept.mono (fun k _ hk => .inr (.inl hk))).trans (q.kept.mono (fun k _ hk => .inr (.inr (.inl hk))))).setCell (.inl (.inl rfl)) _).setCell (.inl (.inl rfl)) _
  · intro k hk
    rcases hk with rfl | rfl | rfl | hk | hk | ⟨c, hc, hk⟩
    · exact .inl (.inl rfl)
    · exact .inl (.inr (.inl rfl))
    · exact .inl (.inr (.inr (.inl rfl)))
    · cases hk
    · rcases idk k hk with ⟨_, hk⟩ | ⟨rfl, _, _⟩
      · exact .inl (.inr (.inr (.inr (.inr (.inl hk)))))
      · exact .inr f.new
    · rcases idk c hc with ⟨hne, hc⟩ | ⟨rfl, _, _⟩
      · have e : (cutL y (cutP y keep torn tb y.wp.length) tb).bv c = y.bv c := if_neg hne
        rw [e] at hk
        exact .inl (.inr (.inr (.inr (.inr (.inr ⟨c, hc, hk⟩)))))
      · have e : (cutL y (cutP y keep torn c y.wp.length) c).bv c = .slice none 0 0 := if_pos rfl
        rw [e] at hk
        cases hk
theorem cut_on (y : Lay) (keep : List Bool) (A : Option Addr) (cap : Nat) (torn : Int) (w : World) (base : Nat) (h : DiskOK w base y) (ho : y.off = false) (hw : y.wp.length ≤ 1000000000)
    (_hkl : keep.length ≤ 9223372036854775807) (hR : RVF w y.foot A (cL keep)) :
    Calls Tryd.prog 23 #[.pointer (some ⟨y.D, 0, none⟩), .slice A keep.length cap, .int .i64 torn] w fun e w' => e = .returned (.tuple #[]) ∧ Next w base y (y.abs.cut keep torn) w' := by
  have c4 := h.c4
  rw [ho] at c4
  have c3 := h.c3
  obtain ⟨Aw, cp, hv, _, _⟩ := own_form h.wk
  rw [hv] at c3
  go_enter Tryd.func23, Tryd.ntmps23
  go_wp2
  go_loopw [6, 7, 23, 28, 41] (fun _ _ i _ _ wr => ∃ k tb : Nat, k ≤ y.wp.length ∧ i = .int .i64 k ∧ Cutting w y keep torn tb k wr) (fun _ _ i _ _ _ => y.wp.length - (intOf i).toNat)
  case atStart => exact ⟨0, w.heap.size, by omega, rfl, Kept.refl _ _, h.lk, Nat.le_refl _, fun h0 h1 => by omega⟩
  case round =>
    obtain ⟨k, tb, hk, rfl, f⟩ := hrel
    have hLD : y.D ≠ y.L := blk_ne h.dk h.lk (by decide)
    have hD : Blk wr y.D 84 y.dcells := (f.kept.block _ h.dk.lt hLD).trans h.dk
    by_cases hlt : k < y.wp.length
    · obtain ⟨g, cap', hv', hg, k0, k1⟩ := h.wcell hlt
      have hvv := hv.symm.trans hv'
      injection hvv with hA _ hcp
      subst hA
      subst hcp
      have hgL : g ≠ y.L := own_ne h.wk (by rw [hv']; rfl) h.lk (by decide)
      have k0' : wr.cell? ⟨g, k * 2, none⟩ = some (.int .i64 ((y.wp[k]).1 : Int)) := (World.cell?_of_block (w := w) (f.kept.block g hg hgL)).trans k0
      have k1' : wr.cell? ⟨g, k * 2 + 1, none⟩ = some (.pointer (some ⟨(y.wp[k]).2, 0, none⟩)) := (World.cell?_of_block (w := w) (f.kept.block g hg hgL)).trans k1
      have hwr : (y.wp[k]).1 < y.lp.length := h.wr _ (y.wp[k]).2 (List.getElem_mem hlt)
      have HT : ∀ tb', Hid (cutP y keep torn tb' (k + 1) = applyW (cutP y keep torn tb' k) (keep1 keep torn (some tb') k ((y.wp[k]).1, some (y.wp[k]).2))) := by
        intro tb'
        show _ = _
        unfold cutP
        rw [List.take_succ_eq_append_getElem hlt]
        have : someW (y.wp.take k ++ [y.wp[k]]) = someW (y.wp.take k) ++ [((y.wp[k]).1, some (y.wp[k]).2)] := by unfold someW; rw [List.map_append]; rfl
        rw [this, keepW_snoc, applyW_append, Nat.zero_add]
        have hlen : (someW (y.wp.take k)).length = k := by simp [someW]; omega
        rw [hlen]
      generalize y.wp[k] = x at *
      obtain ⟨n, c⟩ := x
      simp only at k0' k1' hwr HT
      have d1 : wr.cell? ⟨y.D, 1, none⟩ = some (.slice (some ⟨y.L, 0, none⟩) y.lp.length y.lp.length) := hD.at_ rfl
      have hDl := hD.lt
      have hLl := f.row.lt
      have hcl : ∀ tb', (cutP y keep torn tb' k).length = y.lp.length := fun tb' => applyW_length _ _
      obtain ⟨pv, cLn⟩ : ∃ pv, wr.cell? ⟨y.L, n, none⟩ = some pv := by
        have hlt : n < (cutP y keep torn tb k).length := by rw [hcl]; exact hwr
        exact ⟨ptrV (cutP y keep torn tb k)[n], f.row.at_ (by simp [hlt])⟩
      have zL := f.row.frozen n
      have HT' := HT
      clear k0 k1 c3 c4 hv hv' hD hcl HT
      by_cases ht : (k : Int) = torn
      · have hte : ((k : Int) == torn) = true := by simpa using ht
        have Ht := Lib.hid ht
        clear ht
        have HT := HT'
        clear HT'
        have HTh := Lib.hid HT
        clear HT
        go_wp2
        go_region
        go_wp2
        go_roundw
        case rel => exact ⟨k + 1, _, by omega, by go_num, f.torn_ h Ht.out (HTh.out _).out⟩
        case measure => simp [intOf]; omega
      · have hte : ((k : Int) == torn) = false := by simpa using ht
        have Ht := Lib.hid ht
        clear ht
        have HTh := Lib.hid HT'
        clear HT'
        by_cases hkk : k < keep.length
        · have dk : decide (k < keep.length) = true := by simpa using hkk
          obtain ⟨bk, ofk, rfl, hbk, hbF, hck⟩ := hR (by rintro e; have := cL_len keep; rw [e] at this; simp at this; omega)
          have hbkL : bk ≠ y.L := fun e => hbF (.inr (.inl e))
          have kc : wr.cell? ⟨bk, ofk + k, none⟩ = some (.bool keep[k]) := (World.cell?_of_block (w := w) (f.kept.block bk hbk hbkL)).trans (hck k _ (by simp [cL, hkk]))
          have hbkl : bk < wr.heap.size := Nat.lt_of_lt_of_le hbk f.kept.size
          have hkg : keep.getD k false = keep[k] := by simp [List.getD, hkk]
          have Hkg := Lib.hid hkg
          clear hkg hck
          cases hkv : keep[k]
          · rw [hkv] at kc
            go_wp2
            go_roundw
            case rel => exact ⟨k + 1, tb, by omega, by go_num, f.skip Ht.out (HTh.out _).out (by rw [Hkg.out]; exact hkv) _⟩
            case measure => simp [intOf]; omega
          · rw [hkv] at kc
            go_wp2
            go_region
            go_wp2
            go_roundw
            case rel => exact ⟨k + 1, tb, by omega, by go_num, f.keep_ h Ht.out (HTh.out _).out (by rw [Hkg.out]; exact hkv) _⟩
            case measure => simp [intOf]; omega
        · have dk : decide (k < keep.length) = false := by simpa using hkk
          go_wp2
          go_roundw
          case rel => exact ⟨k + 1, tb, by omega, by go_num, f.skip Ht.out (HTh.out _).out (by simp [List.getD, Nat.le_of_not_lt hkk]) _⟩
          case measure => simp [intOf]; omega
    · obtain rfl : k = y.wp.length := by omega
      have HF := Lib.hid f
      clear f
      obtain ⟨w2, rfl⟩ : ∃ w2 : World, w2 = wr := ⟨_, rfl⟩
      have c3' : w2.cell? ⟨y.D, 3, none⟩ = some (.slice Aw y.wp.length cp) := by rw [← hv]; exact hD.at_ rfl
      clear c3 c4 hk hlt
      go_wp2
      go_loopw [9, 67] (fun _ i wr => ∃ j : Nat, j ≤ y.wp.length ∧ i = .int .i64 j ∧ Telling w2 y (cutP y keep torn tb y.wp.length) j wr) (fun _ i _ => y.wp.length - (intOf i).toNat)
      case atStart => exact ⟨0, by omega, rfl, Kept.refl _ _, (HF.out.other h h.tk (fun e => h.lt e.symm))⟩
      case round =>
        obtain ⟨j, hj, rfl, q⟩ := hrel
        have hDT : y.D ≠ y.T := blk_ne h.dk h.tk (by decide)
        have hD2 : Blk wr y.D 84 y.dcells := (q.kept.block _ hD.lt hDT).trans hD
        by_cases hlt : j < y.wp.length
        · obtain ⟨g, cap', hv', hg, k0, k1⟩ := h.wcell hlt
          have hvv := hv.symm.trans hv'
          injection hvv with hA _ hcp
          subst hA
          subst hcp
          have hgL : g ≠ y.L := own_ne h.wk (by rw [hv']; rfl) h.lk (by decide)
          have hgT : g ≠ y.T := own_ne h.wk (by rw [hv']; rfl) h.tk (by decide)
          have hg2 : g < w2.heap.size := Nat.lt_of_lt_of_le hg HF.out.kept.size
          have k0' : wr.cell? ⟨g, j * 2, none⟩ = some (.int .i64 ((y.wp[j]).1 : Int)) := (World.cell?_of_block (w := w) ((q.kept.block g hg2 hgT).trans (HF.out.kept.block g hg hgL))).trans k0
          have k1' : wr.cell? ⟨g, j * 2 + 1, none⟩ = some (.pointer (some ⟨(y.wp[j]).2, 0, none⟩)) := (World.cell?_of_block (w := w) ((q.kept.block g hg2 hgT).trans (HF.out.kept.block g hg hgL))).trans k1
          have hwr : (y.wp[j]).1 < y.lp.length := h.wr _ (y.wp[j]).2 (List.getElem_mem hlt)
          have HT : Hid ((y.wp.take (j + 1)).map (fun x => (x.1, (cutP y keep torn tb y.wp.length).getD x.1 none)) = (y.wp.take j).map (fun x => (x.1, (cutP y keep torn tb y.wp.length).getD x.1 none)) ++ [((y.wp[j]).1, (cutP y keep torn tb y.wp.length).getD (y.wp[j]).1 none)]) := by
            show _ = _
            rw [List.take_succ_eq_append_getElem hlt, List.map_append]; rfl
          generalize y.wp[j] = x at *
          obtain ⟨n, c⟩ := x
          simp only at k0' k1' hwr HT
          have d1 : wr.cell? ⟨y.D, 1, none⟩ = some (.slice (some ⟨y.L, 0, none⟩) y.lp.length y.lp.length) := hD2.at_ rfl
          have d2 : wr.cell? ⟨y.D, 2, none⟩ = some (.slice (some ⟨y.T, 0, none⟩) y.lp.length y.lp.length) := hD2.at_ rfl
          have hDl := hD2.lt
          have hcl : (cutP y keep torn tb y.wp.length).length = y.lp.length := applyW_length _ _
          have hLb : Blk wr y.L 89 ((cutP y keep torn tb y.wp.length).map ptrV).toArray := (q.kept.block _ HF.out.row.lt h.lt).trans HF.out.row
          have hLl := hLb.lt
          have hTl := q.row.lt
          have cLn : wr.cell? ⟨y.L, n, none⟩ = some (ptrV ((cutP y keep torn tb y.wp.length).getD n none)) := hLb.at_ (ptr_row_at (by rw [hcl]; exact hwr))
          obtain ⟨pv, cTn⟩ : ∃ pv, wr.cell? ⟨y.T, n, none⟩ = some pv := by
            have hlen : (applyW y.tp ((y.wp.take j).map fun x => (x.1, (cutP y keep torn tb y.wp.length).getD x.1 none))).length = y.lp.length := by rw [applyW_length, tp_len]
            exact ⟨ptrV ((applyW y.tp ((y.wp.take j).map fun x => (x.1, (cutP y keep torn tb y.wp.length).getD x.1 none))).getD n none), q.row.at_ (ptr_row_at (by rw [hlen]; exact hwr))⟩
          have zT := q.row.frozen n
          have hpf : ∃ a, ptrV ((cutP y keep torn tb y.wp.length).getD n none) = .pointer a := by
            cases (cutP y keep torn tb y.wp.length).getD n none with
            | none => exact ⟨_, rfl⟩
            | some c => exact ⟨_, rfl⟩
          obtain ⟨pa, hpa⟩ := hpf
          rw [hpa] at cLn
          have Hpa := Lib.hid hpa
          clear k0 k1 hv hv' hD2 hcl hLb hpa hD
          go_wp2
          go_region
          go_wp2
          go_roundw
          case rel =>
            refine ⟨j + 1, by omega, by go_num, ((q.kept.setCell (.inl rfl) _).alloc _).drew, ?_⟩
            have := (q.row.set_ n (.pointer pa)).alloc (.cells #[.int .i64 (n : Int), .pointer (some ⟨c, 0, none⟩)] 91)
            rw [HT.out, toldW_snoc]
            have e : (((applyW y.tp ((y.wp.take j).map fun x => (x.1, (cutP y keep torn tb y.wp.length).getD x.1 none))).map ptrV).toArray).setIfInBounds n (.pointer pa) =
                (((applyW y.tp ((y.wp.take j).map fun x => (x.1, (cutP y keep torn tb y.wp.length).getD x.1 none))).set n ((cutP y keep torn tb y.wp.length).getD n none)).map ptrV).toArray := by
              rw [List.map_set, Hpa.out]; simp
            rw [e] at this
            exact this
          case measure => simp [intOf]; omega
        · obtain rfl : j = y.wp.length := by omega
          have HN := Lib.hid (cut_ok h ho HF.out q)
          have hDl := hD2.lt
          have d3 : wr.cell? ⟨y.D, 3, none⟩ = some y.wv := hD2.at_ rfl
          have z3 := hD2.frozen 3
          have d4 : wr.cell? ⟨y.D, 4, none⟩ = some (.bool y.off) := hD2.at_ rfl
          have z4 := hD2.frozen 4
          clear hv hD2
          go_wp2
          go_end0
          exact ⟨rfl, HN.out⟩
end Go.Proofs.YtpojlchikaffhaaDoor
namespace Go.Proofs.YtpojlchikaffhaaDoor
open Go.RowKit DiskP

theorem Next.trans {w w1 w2 : World} {base : Nat} {y y1 : Lay} {S : Dsk} (d1 : y1.D = y.D) (k1 : Kept y.foot w w1) (f1 : ∀ k, y1.foot k → y.foot k ∨ w.heap.size ≤ k) (h : Next w1 base y1 S w2) : Next w base y S w2 := by
  obtain ⟨y2, h2, a2, d2, k2, f2⟩ := h
  refine ⟨y2, h2, a2, d2.trans d1, ⟨k2.os.trans k1.os, k2.tape.trans k1.tape, k2.output.trans k1.output, Nat.le_trans k1.size k2.size, fun k hk hF => ?_⟩, ?_⟩
  · refine (k2.block k (Nat.lt_of_lt_of_le hk k1.size) fun hf => ?_).trans (k1.block k hk hF)
    rcases f1 k hf with h | h
    · exact hF h
    · omega
  · intro k hk
    rcases f2 k hk with h | h
    · exact f1 k h
    · exact .inr (Nat.le_trans k1.size h)
/-- What is told of a sector that was never written. -/
theorem tp_get (y : Lay) {n : Nat} (hn : n < y.lp.length) : y.tp[n]? = some (((lastW y.wp n).map some).getD y.lp[n]) := by
  show (applyW y.lp (someW y.wp))[n]? = _
  rw [applyW_get _ _ n hn]
  unfold someW
  rw [lastW_map]
theorem tp_none (y : Lay) {n : Nat} (hn : n < y.lp.length) (h : y.tp[n]? = some none) : lastW y.wp n = none ∧ y.lp[n]? = some none := by
  rw [tp_get y hn] at h
  cases hl : lastW y.wp n with
  | some c => rw [hl] at h; simp at h
  | none => rw [hl] at h; simp at h; exact ⟨rfl, by rw [List.getElem?_eq_getElem hn, h]⟩
def freshed (y : Lay) (n c : Nat) (v : Value) : Lay :=
  { y with lp := y.lp.set n (some c), sect := fun k => if k = c then zeroS y.size else y.sect k, bv := fun k => if k = c then v else y.bv k }
theorem fresh_tp (y : Lay) {n c : Nat} {v : Value} (hn : n < y.lp.length) (h : y.tp[n]? = some none) : (freshed y n c v).tp = y.tp.set n (some c) := by
  obtain ⟨h1, h2⟩ := tp_none y hn h
  apply List.ext_getElem?
  intro i
  by_cases hi : i < y.lp.length
  · rw [tp_get (freshed y n c v) (by show i < (y.lp.set n (some c)).length; simpa using hi), List.getElem?_set, tp_get y hi]
    show some (((lastW y.wp i).map some).getD ((y.lp.set n (some c))[i]'(by simpa using hi))) = _
    by_cases e : n = i
    · subst e
      rw [h1]
      simp [tp_len, hi]
    · rw [if_neg e]
      simp [e]
  · rw [List.getElem?_eq_none (by rw [tp_len]; show (y.lp.set n (some c)).length ≤ i; simp; omega), List.getElem?_eq_none (by simp [tp_len]; omega)]
theorem fresh_ok {w w2 : World} {base : Nat} {y : Lay} {n c : Nat} {v : Value} (h : DiskOK w base y) (b2 : Below w.heap.size w w2)
    (hn : n < y.lp.length) (ht : y.tp[n]? = some none)
    (hc : Blk w2 c 93 #[v, .bool false, .bool false]) (hcw : w.heap.size ≤ c)
    (own1 : w2.ownsRow w.heap.size 5 1 v y.size (cB (List.replicate y.size 0))) :
    DiskOK ((w2.setCell ⟨y.T, n, none⟩ (.pointer (some ⟨c, 0, none⟩))).setCell ⟨y.L, n, none⟩ (.pointer (some ⟨c, 0, none⟩))) base (freshed y n c v) ∧
    (freshed y n c v).abs = y.abs ∧ Kept y.foot w ((w2.setCell ⟨y.T, n, none⟩ (.pointer (some ⟨c, 0, none⟩))).setCell ⟨y.L, n, none⟩ (.pointer (some ⟨c, 0, none⟩))) ∧
    ∀ k, (freshed y n c v).foot k → y.foot k ∨ w.heap.size ≤ k := by
  have h2 := h.below b2
  have hbw : base ≤ w.heap.size := Nat.le_trans h.bD (Nat.le_of_lt h.dk.lt)
  obtain ⟨hw, hl⟩ := tp_none y hn ht
  have keep : ∀ k, k ≠ y.T → k ≠ y.L → ((w2.setCell ⟨y.T, n, none⟩ (.pointer (some ⟨c, 0, none⟩))).setCell ⟨y.L, n, none⟩ (.pointer (some ⟨c, 0, none⟩))).heap[k]? = w2.heap[k]? := by
    intro k h1 h2
    rw [heap_setCell_other _ _ _ _ h2, heap_setCell_other _ _ _ _ h1]
  have nc : ∀ k, y.ids k → k ≠ c := fun k hk e => by have := (h.ck k hk).lt; omega
  have bvc : (freshed y n c v).bv c = v := if_pos rfl
  have bvn : ∀ k, k ≠ c → (freshed y n c v).bv k = y.bv k := fun k hne => if_neg hne
  have scc : (freshed y n c v).sect c = zeroS y.size := if_pos rfl
  have scn : ∀ k, k ≠ c → (freshed y n c v).sect k = y.sect k := fun k hne => if_neg hne
  have idk : ∀ k, (freshed y n c v).ids k → k = c ∨ (y.ids k ∧ k ≠ c) := by
    intro k hk
    rcases hk with hk | ⟨m, hk⟩
    · rcases List.mem_or_eq_of_mem_set hk with hk | hk
      · exact .inr ⟨.inl hk, nc k (.inl hk)⟩
      · injection hk with hk; exact .inl hk
    · exact .inr ⟨.inr ⟨m, hk⟩, nc k (.inr ⟨m, hk⟩)⟩
  have blkT : ∀ {k : Nat} {t : TypeId} {cs : Array Value}, Blk w2 k t cs → t ≠ 89 → k ≠ y.T ∧ k ≠ y.L := fun hb hne => ⟨blk_ne hb h2.tk hne, blk_ne hb h2.lk hne⟩
  have ownT : ∀ {k m size : Nat} {e : TypeId} {b' : Nat} {v : Value} {xs : List Value}, w2.ownsRow b' e size v m xs → v.ownBlock = some k → e ≠ 89 → k ≠ y.T ∧ k ≠ y.L := fun ho hk hne => ⟨own_ne ho hk h2.tk hne, own_ne ho hk h2.lk hne⟩
  have kb : ∀ {k : Nat} {t : TypeId} {cs : Array Value}, Blk w2 k t cs → t ≠ 89 → Blk ((w2.setCell ⟨y.T, n, none⟩ (.pointer (some ⟨c, 0, none⟩))).setCell ⟨y.L, n, none⟩ (.pointer (some ⟨c, 0, none⟩))) k t cs :=
    fun {k} _ _ hb hne => (keep k (blkT hb hne).1 (blkT hb hne).2).trans hb
  have ko : ∀ {m size : Nat} {e : TypeId} {b' : Nat} {v : Value} {xs : List Value}, w2.ownsRow b' e size v m xs → e ≠ 89 → ((w2.setCell ⟨y.T, n, none⟩ (.pointer (some ⟨c, 0, none⟩))).setCell ⟨y.L, n, none⟩ (.pointer (some ⟨c, 0, none⟩))).ownsRow b' e size v m xs :=
    fun ho hne => own_frame ho fun k hk => keep k (ownT ho hk hne).1 (ownT ho hk hne).2
  have setm : ∀ (l : List (Option Nat)), ((l.map ptrV).toArray).setIfInBounds n (.pointer (some ⟨c, 0, none⟩)) = ((l.set n (some c)).map ptrV).toArray := by
    intro l; simp [ptrV]
  have getm : ∀ (i k : Nat), (y.lp.set n (some c))[i]? = some (some k) → (i = n ∧ k = c) ∨ (y.lp[i]? = some (some k) ∧ k ≠ c) := by
    intro i k hi
    rw [List.getElem?_set] at hi
    by_cases e : n = i
    · rw [if_pos e, if_pos (by omega)] at hi
      injection hi with hi
      injection hi with hi
      exact .inl ⟨e.symm, hi.symm⟩
    · rw [if_neg e] at hi
      exact .inr ⟨hi, nc k (.inl (List.mem_of_getElem? hi))⟩
  refine ⟨?_, ?_, ?_, ?_⟩
  · exact {
      dk := by
        have : (freshed y n c v).dcells = y.dcells := by simp [Lay.dcells, freshed]
        rw [this]
        exact kb h2.dk (by decide)
      lk := by
        have := (h2.lk.far (p := ⟨y.T, n, none⟩) h.lt (.pointer (some ⟨c, 0, none⟩))).set_ n (.pointer (some ⟨c, 0, none⟩))
        rw [setm] at this
        exact this
      tk := by
        have := (h2.tk.set_ n (.pointer (some ⟨c, 0, none⟩))).far (p := ⟨y.L, n, none⟩) (fun e => h.lt e.symm) (.pointer (some ⟨c, 0, none⟩))
        rw [setm] at this
        rw [fresh_tp y hn ht]
        exact this
      wk := ko h2.wk (by decide)
      ck := fun k hk => by
        rcases idk k hk with rfl | ⟨hk, hne⟩
        · rw [bvc, scc]
          exact kb hc (by decide)
        · rw [bvn k hne, scn k hne]
          exact kb (h2.ck k hk) (by decide)
      bk := fun k hk => by
        rcases idk k hk with rfl | ⟨hk, hne⟩
        · rw [bvc, scc]
          exact ⟨by simp [freshed], own_mono (ko own1 (by decide)) hbw⟩
        · rw [bvn k hne, scn k hne]
          have hbk := h2.bk k hk
          cases hs : (y.sect k).bytes with
          | none => rw [hs] at hbk; exact hbk
          | some m =>
            rw [hs] at hbk
            exact ⟨hbk.1, ko hbk.2 (by decide)⟩
      bD := h.bD
      bL := h.bL
      bT := h.bT
      bc := fun k hk => by
        rcases idk k hk with rfl | ⟨hk, _⟩
        · omega
        · exact h.bc k hk
      n1 := fun i j k hi hj => by
        rcases getm i k hi with ⟨h1, h1'⟩ | ⟨h1, h1'⟩ <;> rcases getm j k hj with ⟨h3, h3'⟩ | ⟨h3, h3'⟩
        · omega
        · exact absurd h1' h3'
        · exact absurd h3' h1'
        · exact h.n1 i j k h1 h3
      n2 := h.n2
      n3 := fun k m hk hm => by
        rcases List.mem_or_eq_of_mem_set hk with hk | hk
        · exact h.n3 k m hk hm
        · injection hk with hk
          exact nc k (.inr ⟨m, hm⟩) hk
      nb := fun k k' j hk hk' hj hj' => by
        rcases idk k hk with rfl | ⟨hk1, hne⟩ <;> rcases idk k' hk' with rfl | ⟨hk1', hne'⟩
        · rfl
        · rw [bvc] at hj
          rw [bvn _ hne'] at hj'
          have h1 := (own_lt own1 hj).1
          have h2 := ((h.bk k' hk1').lt hj').2
          omega
        · rw [bvc] at hj'
          rw [bvn _ hne] at hj
          have h1 := (own_lt own1 hj').1
          have h2 := ((h.bk k hk1).lt hj).2
          omega
        · rw [bvn _ hne] at hj
          rw [bvn _ hne'] at hj'
          exact h.nb k k' j hk1 hk1' hj hj'
      lt := h.lt
      wr := fun m k hm => by
        have := h.wr m k hm
        show m < (y.lp.set n (some c)).length
        simpa using this
      s1 := h.s1
      s2 := h.s2
      l1 := by have := h.l1; show 1 ≤ (y.lp.set n (some c)).length; simpa using this
      l2 := by have := h.l2; show (y.lp.set n (some c)).length ≤ 65536; simpa using this }
  · show Dsk.mk _ _ _ _ = Dsk.mk _ _ _ _
    congr 1
    · apply List.ext_getElem?
      intro i
      show ((y.lp.set n (some c)).map (ptrS y.size (freshed y n c v).sect))[i]? = (y.lp.map (ptrS y.size y.sect))[i]?
      rw [List.getElem?_map, List.getElem?_map, List.getElem?_set]
      by_cases e : n = i
      · subst e
        rw [if_pos rfl, if_pos hn, hl]
        show some ((freshed y n c v).sect c) = some (zeroS y.size)
        rw [scc]
      · rw [if_neg e]
        cases ho : y.lp[i]? with
        | none => rfl
        | some o =>
          cases o with
          | none => rfl
          | some k => show some ((freshed y n c v).sect k) = some (y.sect k); rw [scn k (nc k (.inl (List.mem_of_getElem? ho)))]
    · show y.wp.map _ = y.wp.map _
      apply List.map_congr_left
      intro x hx
      simp only [Prod.mk.injEq, true_and]
      exact scn x.2 (nc x.2 (.inr ⟨x.1, hx⟩))
  · exact ((Kept.of_below b2 y.foot).setCell (.inl (.inr (.inr (.inl rfl)))) _).setCell (.inl (.inr (.inl rfl))) _
  · intro k hk
    rcases hk with rfl | rfl | rfl | hk | hk | ⟨k', hk', hj⟩
    · exact .inl (.inl rfl)
    · exact .inl (.inr (.inl rfl))
    · exact .inl (.inr (.inr (.inl rfl)))
    · exact .inl (.inr (.inr (.inr (.inl hk))))
    · rcases idk k hk with rfl | ⟨hk, _⟩
      · exact .inr hcw
      · exact .inl (.inr (.inr (.inr (.inr (.inl hk)))))
    · rcases idk k' hk' with rfl | ⟨hk', hne⟩
      · rw [bvc] at hj
        exact .inr (own_lt own1 hj).1
      · rw [bvn k' hne] at hj
        exact .inl (.inr (.inr (.inr (.inr (.inr ⟨k', hk', hj⟩)))))

/- ### A bit is turned -/
def turned (y : Lay) (c bit : Nat) : Lay := { y with sect := fun k => if k = c then (y.sect c).turn bit else y.sect k }
theorem turned_abs {w : World} {base : Nat} {y : Lay} {n c bit : Nat} (h : DiskOK w base y) (hn : n < y.lp.length) (ht : y.tp[n]? = some (some c)) : (turned y c bit).abs = y.abs.rotted n bit := by
  have scc : (turned y c bit).sect c = (y.sect c).turn bit := if_pos rfl
  have scn : ∀ k, k ≠ c → (turned y c bit).sect k = y.sect k := fun k hne => if_neg hne
  have e0 : lastIdx y.abs.wait n = lastIdx y.wp n := lastIdx_map y.sect y.wp n
  rw [tp_get y hn] at ht
  have hli := lastW_idx y.wp n
  unfold Dsk.rotted
  rw [e0]
  cases hx : lastIdx y.wp n with
  | some i =>
    rw [hx, Option.bind_some] at hli
    obtain ⟨k, hk⟩ := lastIdx_lt hx
    rw [hk] at hli
    rw [hli] at ht
    simp at ht
    subst ht
    show Dsk.mk _ _ _ _ = Dsk.mk _ _ _ _
    congr 1
    · show y.lp.map _ = y.lp.map _
      apply List.map_congr_left
      intro o ho
      cases o with
      | none => rfl
      | some j => exact scn j (fun e => h.n3 j n ho (by rw [e]; exact List.mem_of_getElem? hk))
    · apply List.ext_getElem?
      intro j
      show (y.wp.map fun x => (x.1, (turned y k bit).sect x.2))[j]? = ((y.wp.map fun x => (x.1, y.sect x.2)).modify i fun x => (x.1, x.2.turn bit))[j]?
      rw [List.getElem?_modify, List.getElem?_map, List.getElem?_map]
      by_cases e : i = j
      · subst e
        rw [hk]
        simp [scc]
      · cases hj : y.wp[j]? with
        | none => rfl
        | some x =>
          simp [e]
          refine scn x.2 fun e2 => e (h.n2 i j n x.1 k hk (by rw [hj, ← e2]))
  | none =>
    rw [hx, Option.bind_none] at hli
    rw [hli] at ht
    simp at ht
    have hlp : y.lp[n]? = some (some c) := by rw [List.getElem?_eq_getElem hn, ht]
    show Dsk.mk _ _ _ _ = Dsk.mk _ _ _ _
    congr 1
    · apply List.ext_getElem?
      intro j
      show (y.lp.map (ptrS y.size (turned y c bit).sect))[j]? = ((y.lp.map (ptrS y.size y.sect)).modify n (Sect.turn · bit))[j]?
      rw [List.getElem?_modify, List.getElem?_map, List.getElem?_map]
      by_cases e : n = j
      · subst e
        rw [hlp]
        simp [ptrS, scc]
      · cases hj : y.lp[j]? with
        | none => rfl
        | some o =>
          cases o with
          | none => simp [ptrS, e]
          | some k =>
            simp [ptrS, e]
            exact scn k fun e2 => e (h.n1 n j c hlp (by rw [hj, e2]))
    · show y.wp.map _ = y.wp.map _
      apply List.map_congr_left
      intro x hx
      simp only [Prod.mk.injEq, true_and]
      exact scn x.2 fun e => h.n3 c x.1 (List.mem_of_getElem? hlp) (by rw [← e]; exact hx)
theorem turn_ok {w : World} {base : Nat} {y : Lay} {n c bit g cap : Nat} {l : List UInt8} (h : DiskOK w base y) (hn : n < y.lp.length) (ht : y.tp[n]? = some (some c))
    (hs : (y.sect c).bytes = some l) (hv : y.bv c = .slice (some ⟨g, 0, none⟩) y.size cap) (x : UInt8) (hx : (turnBit l bit) = l.set (bit / 8) x) :
    Next w base y (y.abs.rotted n bit) ((w.setCell ⟨c, 2, none⟩ (.bool true)).setCell ⟨g, bit / 8, none⟩ (byteV x)) := by
  have hc : y.ids c := tp_ids y (List.mem_of_getElem? ht)
  have hck := h.ck c hc
  have hbk := h.bk c hc
  rw [hs] at hck hbk
  obtain ⟨hl, hown⟩ := hbk
  have hg : (y.bv c).ownBlock = some g := by rw [hv]; rfl
  have scc : (turned y c bit).sect c = ⟨some (l.set (bit / 8) x), true⟩ := by
    have : (turned y c bit).sect c = (y.sect c).turn bit := if_pos rfl
    rw [this]
    unfold Sect.turn
    rw [hs, Option.map_some, hx]
  have scn : ∀ k, k ≠ c → (turned y c bit).sect k = y.sect k := fun k hne => if_neg hne
  have keep : ∀ k, k ≠ c → k ≠ g → ((w.setCell ⟨c, 2, none⟩ (.bool true)).setCell ⟨g, bit / 8, none⟩ (byteV x)).heap[k]? = w.heap[k]? := by
    intro k h1 h2
    rw [heap_setCell_other _ _ _ _ h2, heap_setCell_other _ _ _ _ h1]
  have kb : ∀ {k : Nat} {t : TypeId} {cs : Array Value}, Blk w k t cs → t ≠ 93 → t ≠ 5 → Blk ((w.setCell ⟨c, 2, none⟩ (.bool true)).setCell ⟨g, bit / 8, none⟩ (byteV x)) k t cs :=
    fun {k} _ _ hb h1 h2 => (keep k (blk_ne hb hck h1) (fun e => own_ne hown hg hb (fun e => h2 e.symm) e.symm)).trans hb
  refine ⟨turned y c bit, ?_, turned_abs h hn ht, rfl, ?_, fun k hk => .inl hk⟩
  · exact {
      dk := kb h.dk (by decide) (by decide)
      lk := kb h.lk (by decide) (by decide)
      tk := kb h.tk (by decide) (by decide)
      wk := own_frame h.wk fun k hk => keep k (own_ne h.wk hk hck (by decide)) (own_ne2 h.wk hk hown hg (by decide))
      ck := fun k hk => by
        by_cases e : k = c
        · subst e
          rw [scc]
          exact (hck.set_ 2 (.bool true)).far (p := ⟨g, bit / 8, none⟩) (fun e => own_ne hown hg hck (by decide) e.symm) _
        · rw [scn k e]
          have hk' := h.ck k hk
          exact (keep k e (fun e => own_ne hown hg hk' (by decide) e.symm)).trans hk'
      bk := fun k hk => by
        by_cases e : k = c
        · subst e
          rw [scc]
          refine ⟨by rw [List.length_set]; exact hl, ?_⟩
          have h1 : (w.setCell ⟨k, 2, none⟩ (.bool true)).ownsRow base 5 1 (y.bv k) y.size (cB l) := own_frame hown fun j hj => heap_setCell_other _ _ _ _ (own_ne hown hj hck (by decide))
          show ((w.setCell ⟨k, 2, none⟩ (.bool true)).setCell ⟨g, bit / 8, none⟩ (byteV x)).ownsRow base 5 1 (y.bv k) y.size _
          rw [hv] at h1 ⊢
          have h2 := (h1.stored (bit / 8) (byteV x)).1
          rw [show (cB l).set (bit / 8) (byteV x) = cB (l.set (bit / 8) x) by simp [cB]] at h2
          exact h2
        · rw [scn k e]
          have hbk := h.bk k hk
          cases hs' : (y.sect k).bytes with
          | none => rw [hs'] at hbk; exact hbk
          | some m =>
            rw [hs'] at hbk
            exact ⟨hbk.1, own_frame hbk.2 fun j hj => keep j (own_ne hbk.2 hj hck (by decide)) (fun e2 => e (h.nb k c g hk hc (by rw [← e2]; exact hj) hg))⟩
      bD := h.bD
      bL := h.bL
      bT := h.bT
      bc := h.bc
      n1 := h.n1
      n2 := h.n2
      n3 := h.n3
      nb := h.nb
      lt := h.lt
      wr := h.wr
      s1 := h.s1
      s2 := h.s2
      l1 := h.l1
      l2 := h.l2 }
  · exact ((Kept.refl _ _).setCell (.inl (.inr (.inr (.inr (.inr (.inl hc)))))) _).setCell (.inl (.inr (.inr (.inr (.inr (.inr ⟨c, hc, hg⟩)))))) _
end Go.Proofs.YtpojlchikaffhaaDoor
namespace Go.Proofs.YtpojlchikaffhaaDoor
open Go.RowKit DiskP

theorem write_at (y : Lay) (n : Int) (l : List UInt8) (len : Nat) (A : Option Addr) (cap : Nat) (w : World) (base : Nat) (h : DiskOK w base y) (hR : RB w A l) (hlen : l.length = len) (hl : len ≤ 9223372036854775807) (hw : y.wp.length ≤ 1000000000) :
    Calls Tryd.prog 50 #[.pointer (some ⟨y.D, 0, none⟩), .int .i64 n, .slice A len cap] w (RetErr w base y (y.abs.writeE n l) (y.abs.writeS n l)) := by
  subst hlen; exact write_calls y n l A cap w base h hR hl hw
def DiskP.Dsk.flushE (d : Dsk) : Int := if d.off then 10 else 0
def DiskP.Dsk.flushS (d : Dsk) : Dsk := if d.off then d else d.flush
theorem flush_calls (y : Lay) (w : World) (base : Nat) (h : DiskOK w base y) (hw : y.wp.length ≤ 1000000000) :
    Calls Tryd.prog 45 #[.pointer (some ⟨y.D, 0, none⟩)] w (RetErr w base y y.abs.flushE y.abs.flushS) := by
  cases ho : y.off
  · have e1 : y.abs.flushE = 0 := by unfold DiskP.Dsk.flushE; rw [show y.abs.off = false from ho]; rfl
    have e2 : y.abs.flushS = y.abs.flush := by unfold DiskP.Dsk.flushS; rw [show y.abs.off = false from ho]; rfl
    rw [e1, e2]
    exact flush_on y w base h ho hw
  · have e1 : y.abs.flushE = 10 := by unfold DiskP.Dsk.flushE; rw [show y.abs.off = true from ho]; rfl
    have e2 : y.abs.flushS = y.abs := by unfold DiskP.Dsk.flushS; rw [show y.abs.off = true from ho]; rfl
    rw [e1, e2]
    exact flush_off y w base h ho
theorem cut_calls (y : Lay) (keep : List Bool) (A : Option Addr) (cap : Nat) (torn : Int) (w : World) (base : Nat) (h : DiskOK w base y) (hw : y.wp.length ≤ 1000000000)
    (hkl : keep.length ≤ 9223372036854775807) (hR : RVF w y.foot A (cL keep)) :
    Calls Tryd.prog 23 #[.pointer (some ⟨y.D, 0, none⟩), .slice A keep.length cap, .int .i64 torn] w fun e w' => e = .returned (.tuple #[]) ∧ Next w base y (y.abs.cut keep torn) w' := by
  cases ho : y.off
  · exact cut_on y keep A cap torn w base h ho hw hkl hR
  · refine (cut_off y A keep.length cap torn w base h ho).mono fun e w' ⟨he, hw'⟩ => ⟨he, ?_⟩
    subst hw'
    have : y.abs.cut keep torn = y.abs := by unfold Dsk.cut; rw [show y.abs.off = true from ho]; rfl
    rw [this]
    exact Next.same h
theorem on_next (y : Lay) (w : World) (base : Nat) (h : DiskOK w base y) :
    Calls Tryd.prog 24 #[.pointer (some ⟨y.D, 0, none⟩)] w fun e w' => e = .returned (.tuple #[]) ∧ Next w base y y.abs.on w' :=
  (on_calls y w base h).mono fun _ _ ⟨he, h', k⟩ => ⟨he, _, h', rfl, rfl, k, fun _ hk => .inl hk⟩
theorem wlen (y : Lay) : y.wp.length = y.abs.wait.length := by simp [Lay.abs]

end Go.Proofs.YtpojlchikaffhaaDoor
