/-
  The walk of package disk's New.
-/
import Derived.Test.YtendnkklbeiegaaGreatDoorDiskWalkA
import Derived.Test.YtendnkklbeiegaaGreatDoorMem3
import Derived.Test.YtendnkklbeiegaaGreatDoorMAI
import Derived.Lib.Hide
import Derived.BigQuiet
import Derived.Deep.QuietTactic
namespace Go.Proofs.YtendnkklbeiegaaGreatDoor
open Go.RowKit DiskP

theorem info_u8 : (Tryz.prog.info? 5).map (fun i => (i.zero, i.size, i.bytes)) = some (some (.int .u8 0), 1, 1) := by kernel_rfl
theorem el_u8 : El Tryz.prog 42 5 (.int .u8 0) 1 1 := ⟨info_parts info_u8, Tryz.underlying42, rfl, by decide⟩
theorem info_pc : (Tryz.prog.info? 86).map (fun i => (i.zero, i.size, i.bytes)) = some (some (.pointer none), 1, 8) := by kernel_rfl
theorem el_pc : El Tryz.prog 82 86 (.pointer none) 1 8 := ⟨info_parts info_pc, Tryz.underlying82, rfl, by decide⟩

/-- It gives a new disk back; nothing that was there has turned. -/
def RetDisk (w : World) (n size : Nat) (e : Ending) (w' : World) : Prop :=
  ∃ y : Lay, e = .returned (.tuple #[.pointer (some ⟨y.D, 0, none⟩), .int .i64 0]) ∧ DiskOK w' w.heap.size y ∧ y.abs = newD n size ∧ y.lp.length = n ∧ y.size = size ∧ Below w.heap.size w w'

def newL (n size D L T : Nat) : Lay := ⟨D, L, T, size, List.replicate n none, [], .slice none 0 0, false, fun _ => tornS, fun _ => .slice none 0 0⟩
theorem new_ok (n size : Nat) (w : World) (L T : Nat) (hL : w.heap.size ≤ L) (hT : w.heap.size ≤ T) (hLT : L ≠ T) (h1 : 1 ≤ n) (h2 : n ≤ 65536) (h3 : 16 ≤ size) (h4 : size ≤ 4096) {e : Ending}
    (he : e = .returned (.tuple #[.pointer (some ⟨w.heap.size + 1 + 1, 0, none⟩), .int .i64 0]))
    (hL2 : L < w.heap.size + 2 := by omega) (hT2 : T < w.heap.size + 2 := by omega) :
    RetDisk w n size e (((w.alloc (.cells (rep n (.pointer none)) 86)).alloc (.cells (rep n (.pointer none)) 86)).alloc
      (.cells #[.int .i64 (size : Int), .slice (some ⟨L, 0, none⟩) n n, .slice (some ⟨T, 0, none⟩) n n, .slice none 0 0, .bool false] 85)).drew := by
  have b0 : Blk (((w.alloc (.cells (rep n (.pointer none)) 86)).alloc (.cells (rep n (.pointer none)) 86)).alloc
      (.cells #[.int .i64 (size : Int), .slice (some ⟨L, 0, none⟩) n n, .slice (some ⟨T, 0, none⟩) n n, .slice none 0 0, .bool false] 85)) w.heap.size 86 (rep n (.pointer none)) :=
    ((Blk.new w _ _).alloc _).alloc _
  have b1 : Blk (((w.alloc (.cells (rep n (.pointer none)) 86)).alloc (.cells (rep n (.pointer none)) 86)).alloc
      (.cells #[.int .i64 (size : Int), .slice (some ⟨L, 0, none⟩) n n, .slice (some ⟨T, 0, none⟩) n n, .slice none 0 0, .bool false] 85)) (w.heap.size + 1) 86 (rep n (.pointer none)) := by
    have := (Blk.new (w.alloc (.cells (rep n (.pointer none)) 86)) 86 (rep n (.pointer none))).alloc (.cells #[.int .i64 (size : Int), .slice (some ⟨L, 0, none⟩) n n, .slice (some ⟨T, 0, none⟩) n n, .slice none 0 0, .bool false] 85)
    simpa using this
  have bD := Blk.new ((w.alloc (.cells (rep n (.pointer none)) 86)).alloc (.cells (rep n (.pointer none)) 86)) 85 #[.int .i64 (size : Int), .slice (some ⟨L, 0, none⟩) n n, .slice (some ⟨T, 0, none⟩) n n, .slice none 0 0, .bool false]
  have hrep : (List.replicate n (none : Option Nat)).map ptrV = List.replicate n (.pointer none) := by simp [ptrV]
  have hX : ∀ X, w.heap.size ≤ X → X < w.heap.size + 2 → Blk (((w.alloc (.cells (rep n (.pointer none)) 86)).alloc (.cells (rep n (.pointer none)) 86)).alloc
      (.cells #[.int .i64 (size : Int), .slice (some ⟨L, 0, none⟩) n n, .slice (some ⟨T, 0, none⟩) n n, .slice none 0 0, .bool false] 85)) X 86 (rep n (.pointer none)) := by
    intro X hX1 hX2
    have : X = w.heap.size ∨ X = w.heap.size + 1 := by omega
    rcases this with rfl | rfl
    · exact b0
    · exact b1
  have noids : ∀ c, ¬ (newL n size (w.heap.size + 1 + 1) L T).ids c := by
    intro c hc
    rcases hc with hc | ⟨m, hc⟩
    · simp [newL] at hc
    · simp [newL] at hc
  refine ⟨newL n size (w.heap.size + 1 + 1) L T, he, ?_, ?_, by simp [newL], rfl, ((((Below.refl _ _).alloc (Nat.le_refl _) _).alloc (by simp) _).alloc (by simp; omega) _).drew⟩
  · exact {
      dk := by
        show Blk _ (w.heap.size + 1 + 1) _ _
        have : (newL n size (w.heap.size + 1 + 1) L T).dcells = #[.int .i64 (size : Int), .slice (some ⟨L, 0, none⟩) n n, .slice (some ⟨T, 0, none⟩) n n, .slice none 0 0, .bool false] := by simp [newL, Lay.dcells]
        rw [this]
        refine Blk.drew ?_
        simpa using bD
      lk := by
        show Blk _ L _ (((List.replicate n none).map ptrV).toArray)
        rw [hrep]
        exact hX L hL hL2
      tk := by
        show Blk _ T _ (((List.replicate n none).map ptrV).toArray)
        rw [hrep]
        exact hX T hT hT2
      wk := World.ownsRow_nil _ _ _ _
      ck := fun c hc => absurd hc (noids c)
      bk := fun c hc => absurd hc (noids c)
      bD := by show w.heap.size ≤ w.heap.size + 1 + 1; omega
      bL := hL
      bT := hT
      bc := fun c hc => absurd hc (noids c)
      n1 := fun i j c hi _ => by
        have := List.mem_of_getElem? hi
        simp [newL] at this
      n2 := fun i j n m c hi _ => by simp [newL] at hi
      n3 := fun c n _ h => by simp [newL] at h
      nb := fun c c' k hc => absurd hc (noids c)
      lt := hLT
      wr := fun n c h => by simp [newL] at h
      s1 := h3
      s2 := h4
      l1 := by simp [newL]; exact h1
      l2 := by simp [newL]; exact h2 }
  · simp [newL, Lay.abs, newD, ptrS]
theorem new_calls (n size : Nat) (w : World) (h1 : 1 ≤ n) (h2 : n ≤ 65536) (h3 : 16 ≤ size) (h4 : size ≤ 4096) :
    Calls Tryz.prog 19 #[.int .i64 (n : Int), .int .i64 (size : Int)] w (RetDisk w n size) := by
  have d1 : decide ((n : Int) < 1) = false := by simp; omega
  have d2 : decide (65536 < (n : Int)) = false := by simp; omega
  have d3 : decide ((size : Int) < 16) = false := by simp; omega
  have d4 : decide (4096 < (size : Int)) = false := by simp; omega
  have hmk := run_make_n el_pc rfl n (by omega) (by omega)
  go_enter Tryz.func19, Tryz.ntmps19
  go_wp2
  go_region
  · go_wp2
    go_ret2
    exact new_ok n size w w.heap.size (w.heap.size + 1) (by omega) (by omega) (by omega) (by omega) (by omega) (by omega) (by omega) rfl
  · go_wp2
    go_ret2
    exact new_ok n size w (w.heap.size + 1) w.heap.size (by omega) (by omega) (by omega) (by omega) (by omega) (by omega) (by omega) rfl
end Go.Proofs.YtendnkklbeiegaaGreatDoor
namespace Go.Proofs.YtendnkklbeiegaaGreatDoor
open Go.RowKit DiskP

/-- It gives the bytes of a sector, or why there are none; the bytes are the caller's own. -/
def RetRead (w : World) (y : Lay) (n : Int) (e : Ending) (w' : World) : Prop :=
  ∃ v, e = .returned (.tuple #[v, .int .i64 (y.abs.readE n)]) ∧ w'.ownsRow w.heap.size 5 1 v (y.abs.readL n).length (cB (y.abs.readL n)) ∧ Below w.heap.size w w'
theorem hasB_abs (y : Lay) (n : Int) : y.abs.has n = hasB y n := by simp [Dsk.has, hasB, Lay.abs]
theorem RetRead.no {w w' : World} {y : Lay} {n : Int} {e : Ending} (k : Int) (hk : k ≠ 0) (he : e = .returned (.tuple #[.slice none 0 0, .int .i64 k])) (hr : y.abs.readE n = k) (hb : Below w.heap.size w w') : RetRead w y n e w' := by
  have hl : y.abs.readL n = [] := by unfold DiskP.Dsk.readL; rw [hr, if_neg hk]
  exact ⟨.slice none 0 0, by rw [hr]; exact he, by rw [hl]; exact World.ownsRow_nil _ _ _ _, hb⟩
theorem RetRead.ok {w w' : World} {y : Lay} {n : Int} {e : Ending} (v : Value) (l : List UInt8) (k : Nat) (hl : l.length = k) (he : e = .returned (.tuple #[v, .int .i64 0])) (hr : y.abs.readE n = 0) (hb2 : y.abs.readB n.toNat = l)
    (hown : w'.ownsRow w.heap.size 5 1 v k (cB l)) (hb : Below w.heap.size w w') : RetRead w y n e w' := by
  have hl2 : y.abs.readL n = l := by unfold DiskP.Dsk.readL; rw [hr, if_pos rfl, hb2]
  exact ⟨v, by rw [hr]; exact he, by rw [hl2, hl]; exact hown, hb⟩
theorem read_on (y : Lay) (n : Int) (w : World) (base : Nat) (h : DiskOK w base y) (hh : hasB y n = true) (ho : y.off = false) :
    Calls Tryz.prog 126 #[.pointer (some ⟨y.D, 0, none⟩), .int .i64 n] w (RetRead w y n) := by
  obtain ⟨hn0, hn1⟩ : 0 ≤ n ∧ n < y.lp.length := by simpa [hasB] using hh
  obtain ⟨n, rfl⟩ := Int.eq_ofNat_of_zero_le hn0
  have hn : n < y.lp.length := by omega
  have h1 := hasB_abs y (n : Int)
  have c4 := h.c4
  rw [ho] at c4
  have c0 := h.c0
  have c2 := h.c2
  have hs1 := h.s1
  have hs2 := h.s2
  have hmk := run_make_n el_u8 rfl y.size (by omega) (by omega)
  have htp : y.tp[n]? = some (y.tp[n]'(by rw [tp_len]; exact hn)) := List.getElem?_eq_getElem (by rw [tp_len]; exact hn)
  generalize hp : y.tp[n]'(by rw [tp_len]; exact hn) = p at htp
  clear hp
  have ct : w.cell? ⟨y.T, n, none⟩ = some (ptrV p) := h.tk.at_ (by simp [htp])
  have habs : y.abs.told[n]? = some (ptrS y.size y.sect p) := by rw [abs_told]; simp [htp]
  have HE : Hid (y.abs.readE (n : Int) = if (ptrS y.size y.sect p).bytes.isNone then 9 else 0) := by
    show _ = _
    unfold Dsk.readE
    rw [h1, hh, if_neg (by decide)]
    have : y.abs.off = false := ho
    rw [this, if_neg (by decide), Int.toNat_natCast, habs]
  have HB : Hid (y.abs.readB n = ((ptrS y.size y.sect p).bytes).getD []) := by
    show _ = _
    unfold Dsk.readB; rw [habs]; rfl
  clear h1 habs hn0 hn1
  cases p with
  | none =>
    have ct' : w.cell? ⟨y.T, n, none⟩ = some (.pointer none) := ct
    clear ct htp
    go_enter Tryz.func126, Tryz.ntmps126
    go_wp2_with fail
    refine (has_calls y n w base h).mono ?_
    rintro e w' ⟨rfl, rfl⟩
    rw [hh]
    have ct2 : ∀ o, (w.alloc o).cell? ⟨y.T, n, none⟩ = some (.pointer none) := fun o => (World.cell?_alloc_lt w o ⟨y.T, n, none⟩ h.tk.lt).trans ct'
    have cd2 : ∀ o, (w.alloc o).cell? ⟨y.D, 2, none⟩ = some (.slice (some ⟨y.T, 0, none⟩) y.lp.length y.lp.length) := fun o => (World.cell?_alloc_lt w o ⟨y.D, 2, none⟩ h.dk.lt).trans c2
    go_wp2
    go_ret2
    refine RetRead.ok _ (List.replicate y.size 0) y.size (by simp) rfl HE.out (by rw [Int.toNat_natCast, HB.out]; rfl) ?_ ((Below.refl _ _).alloc (Nat.le_refl _) _)
    have := own_made w (base := w.heap.size) 5 y.size (.int .u8 0) (Nat.le_refl _) (by unfold maxLen; omega)
    rw [show cB (List.replicate y.size 0) = List.replicate y.size (.int .u8 0) by simp [cB, byteV]]
    exact this
  | some c =>
    have hc : y.ids c := tp_ids y (List.mem_of_getElem? htp)
    have ct' : w.cell? ⟨y.T, n, none⟩ = some (.pointer (some ⟨c, 0, none⟩)) := ct
    have ck := h.ck c hc
    have bk := h.bk c hc
    have hcl := ck.lt
    have ct2 : ∀ o, (w.alloc o).cell? ⟨y.T, n, none⟩ = some (.pointer (some ⟨c, 0, none⟩)) := fun o => (World.cell?_alloc_lt w o ⟨y.T, n, none⟩ h.tk.lt).trans ct'
    have cd2 : ∀ o, (w.alloc o).cell? ⟨y.D, 2, none⟩ = some (.slice (some ⟨y.T, 0, none⟩) y.lp.length y.lp.length) := fun o => (World.cell?_alloc_lt w o ⟨y.D, 2, none⟩ h.dk.lt).trans c2
    have k0 : ∀ o, (w.alloc o).cell? ⟨c, 0, none⟩ = some (y.bv c) := fun o => (World.cell?_alloc_lt w o ⟨c, 0, none⟩ hcl).trans (ck.at_ rfl)
    have k1 : ∀ o, (w.alloc o).cell? ⟨c, 1, none⟩ = some (.bool (y.sect c).bytes.isNone) := fun o => (World.cell?_alloc_lt w o ⟨c, 1, none⟩ hcl).trans (ck.at_ rfl)
    clear ct htp ck
    cases hs : (y.sect c).bytes with
    | none =>
      rw [hs] at k1
      have HE' : Hid (y.abs.readE (n : Int) = 9) := by have := HE.out; simp only [ptrS, hs] at this; exact this
      clear HE HB bk hs k0
      go_enter Tryz.func126, Tryz.ntmps126
      go_wp2_with fail
      refine (has_calls y n w base h).mono ?_
      rintro e w' ⟨rfl, rfl⟩
      rw [hh]
      have k1' : ∀ o, (w.alloc o).cell? ⟨c, 1, none⟩ = some (.bool true) := k1
      clear k1
      go_wp2
      go_ret2
      exact RetRead.no 9 (by decide) rfl HE'.out ((Below.refl _ _).alloc (Nat.le_refl _) _)
    | some l =>
      rw [hs] at k1 bk
      obtain ⟨hl, hown⟩ := bk
      have HE' : Hid (y.abs.readE (n : Int) = 0) := by have := HE.out; simp only [ptrS, hs] at this; exact this
      have HB' : Hid (y.abs.readB n = l) := by have := HB.out; simp only [ptrS, hs] at this; exact this
      clear HE HB hs
      obtain ⟨A, cp, hv, _, _⟩ := own_form hown
      rw [hv] at hown k0
      have hR : RB w A l := RV.of_own hown
      have k1' : ∀ o, (w.alloc o).cell? ⟨c, 1, none⟩ = some (.bool false) := k1
      have Hl := Lib.hid hl
      clear k1 hown hl
      go_enter Tryz.func126, Tryz.ntmps126
      go_wp2_with fail
      refine (has_calls y n w base h).mono ?_
      rintro e w' ⟨rfl, rfl⟩
      rw [hh]
      go_wp2_with ((with_reducible show wpList _ _ _ (⟨some 41, _, _, _, _, _⟩ :: _) _ _); refine wpList_copy_splice rfl (.tmp 36) (.tmp 40) 42 42 rfl 5 Tryz.underlying42 (by kernel_rfl) (some ⟨w.heap.size, 0, none⟩) A y.size y.size y.size cp rfl rfl w.heap.size 0 (List.replicate y.size (.int .u8 0)) 5 (Blk.new w 5 (rep y.size (.int .u8 0))) (cB l) ?e1 ?e2 ?e3 (cB_one l) w.heap.size w ((Below.refl _ _).alloc (Nat.le_refl _) _) (Nat.le_refl _) ?_)
      case e1 => rw [cB_len, Hl.out]; simp
      case e2 => exact rv_cells (hR.alloc _)
      case e3 => rw [cB_len, Hl.out]; simp
      intro w1 HW b1
      have own1 : w1.ownsRow w.heap.size 5 1 (.slice (some ⟨w.heap.size, 0, none⟩) y.size y.size) y.size (cB l) := by
        refine ⟨by rw [cB_len, Hl.out, Nat.mul_one], .inr ⟨_, _, _, rfl, Nat.le_refl _, HW.out, Nat.le_refl _, by unfold maxLen; omega, ?_, ?_⟩⟩
        · rw [splice_all _ _ (by rw [cB_len, Hl.out]; simp)]; simp [cB_len, Hl.out]
        · rw [splice_all _ _ (by rw [cB_len, Hl.out]; simp), Nat.mul_one]
          exact List.take_of_length_le (by rw [cB_len, Hl.out]; exact Nat.le_refl _)
      clear HW
      go_wp2
      go_ret2
      exact RetRead.ok _ l y.size Hl.out rfl HE'.out (by rw [Int.toNat_natCast]; exact HB'.out) own1 b1
theorem read_calls (y : Lay) (n : Int) (w : World) (base : Nat) (h : DiskOK w base y) :
    Calls Tryz.prog 126 #[.pointer (some ⟨y.D, 0, none⟩), .int .i64 n] w (RetRead w y n) := by
  have h1 := hasB_abs y n
  cases hh : hasB y n
  · have HR : Hid (y.abs.readE n = 1) := by show _ = _; unfold Dsk.readE; rw [h1, hh]; rfl
    clear h1
    go_enter Tryz.func126, Tryz.ntmps126
    go_wp2_with fail
    refine (has_calls y n w base h).mono ?_
    rintro e w' ⟨rfl, rfl⟩
    rw [hh]
    go_wp2
    go_ret2
    exact RetRead.no 1 (by decide) rfl HR.out (Below.refl _ _)
  · have c4 := h.c4
    cases ho : y.off
    · exact read_on y n w base h hh ho
    · have HR : Hid (y.abs.readE n = 10) := by
        show _ = _
        unfold Dsk.readE; rw [h1, hh]
        have : y.abs.off = true := ho
        rw [this]; rfl
      clear h1
      rw [ho] at c4
      go_enter Tryz.func126, Tryz.ntmps126
      go_wp2_with fail
      refine (has_calls y n w base h).mono ?_
      rintro e w' ⟨rfl, rfl⟩
      rw [hh]
      go_wp2
      go_ret2
      exact RetRead.no 10 (by decide) rfl HR.out (Below.refl _ _)
end Go.Proofs.YtendnkklbeiegaaGreatDoor
namespace Go.Proofs.YtendnkklbeiegaaGreatDoor
open Go.RowKit DiskP

theorem own_mono {w : World} {base b' : Nat} {e : TypeId} {size n : Nat} {v : Value} {xs : List Value} (h : w.ownsRow base e size v n xs) (hb : b' ≤ base) : w.ownsRow b' e size v n xs := by
  refine ⟨h.1, ?_⟩
  rcases h.2 with h0 | ⟨g, cap, cur, rfl, h1, h2⟩
  · exact .inl h0
  · exact .inr ⟨g, cap, cur, rfl, Nat.le_trans hb h1, h2⟩
/-- Blocks of other types are other blocks. -/
theorem blk_ne {w : World} {g g' : Nat} {t t' : TypeId} {cs cs' : Array Value} (h : Blk w g t cs) (h' : Blk w g' t' cs') (hne : t ≠ t') : g ≠ g' := by
  rintro rfl
  unfold Blk at h h'
  rw [h] at h'
  injection h' with h'
  injection h' with _ ht
  exact hne ht
theorem own_ne {w : World} {base g : Nat} {e t : TypeId} {size n k : Nat} {v : Value} {xs : List Value} {cs : Array Value} (h : w.ownsRow base e size v n xs) (hk : v.ownBlock = some k) (hg : Blk w g t cs) (hne : e ≠ t) : k ≠ g := by
  rcases h.2 with ⟨rfl, _⟩ | ⟨g', cap, cur, rfl, _, hh, _⟩
  · cases hk
  · injection hk with hk
    subst hk
    exact blk_ne (t := e) hh hg hne
theorem own_ne2 {w : World} {base base' : Nat} {e e' : TypeId} {size n k size' n' k' : Nat} {v v' : Value} {xs xs' : List Value} (h : w.ownsRow base e size v n xs) (hk : v.ownBlock = some k) (h' : w.ownsRow base' e' size' v' n' xs') (hk' : v'.ownBlock = some k') (hne : e ≠ e') : k ≠ k' := by
  rcases h'.2 with ⟨rfl, _⟩ | ⟨g', cap, cur, rfl, _, hh, _⟩
  · cases hk'
  · injection hk' with hk'
    subst hk'
    exact own_ne h hk (g := g') (t := e') hh hne
/-- A disk goes on as another; nothing else that was there has turned. -/
def Next (w : World) (base : Nat) (y : Lay) (S : Dsk) (w' : World) : Prop :=
  ∃ y', DiskOK w' base y' ∧ y'.abs = S ∧ y'.D = y.D ∧ Kept y.foot w w' ∧ ∀ k, y'.foot k → y.foot k ∨ w.heap.size ≤ k
theorem Next.same {w : World} {base : Nat} {y : Lay} (h : DiskOK w base y) : Next w base y y.abs w := ⟨y, h, rfl, rfl, Kept.refl _ _, fun _ hk => .inl hk⟩
theorem Next.same_below {w w' : World} {base : Nat} {y : Lay} (h : DiskOK w base y) (hb : Below w.heap.size w w') : Next w base y y.abs w' := ⟨y, h.below hb, rfl, rfl, Kept.of_below hb _, fun _ hk => .inl hk⟩

theorem info_wr : (Tryz.prog.info? 88).map (fun i => (i.zero, i.size, i.bytes)) = some (some (.agg #[.int .i64 0, .pointer none]), 2, 16) := by kernel_rfl
theorem el_wr : El Tryz.prog 83 88 (.agg #[.int .i64 0, .pointer none]) 2 16 := ⟨info_parts info_wr, Tryz.underlying83, rfl, by decide⟩

def wrote (y : Lay) (n c : Nat) (v1 v2 : Value) (l : List UInt8) : Lay :=
  { y with wp := y.wp ++ [(n, c)], wv := v2, sect := fun k => if k = c then ⟨some l, false⟩ else y.sect k, bv := fun k => if k = c then v1 else y.bv k }
theorem wrote_ids {y : Lay} {n c k : Nat} {v1 v2 : Value} {l : List UInt8} : (wrote y n c v1 v2 l).ids k ↔ y.ids k ∨ k = c := by
  simp only [Lay.ids, wrote]
  constructor
  · rintro (h | ⟨m, h⟩)
    · exact .inl (.inl h)
    · rcases List.mem_append.1 h with h | h
      · exact .inl (.inr ⟨m, h⟩)
      · simp at h; exact .inr h.2
  · rintro ((h | ⟨m, h⟩) | rfl)
    · exact .inl h
    · exact .inr ⟨m, by simp [h]⟩
    · exact .inr ⟨n, by simp⟩
theorem wrote_tp (y : Lay) (n c : Nat) (v1 v2 : Value) (l : List UInt8) : (wrote y n c v1 v2 l).tp = y.tp.set n (some c) := by
  show applyW y.lp (someW (y.wp ++ [(n, c)])) = (applyW y.lp (someW y.wp)).set n (some c)
  have : someW (y.wp ++ [(n, c)]) = someW y.wp ++ [(n, some c)] := by simp [someW]
  rw [this, toldW_snoc]

theorem write_ok {w w3 w4 : World} {base : Nat} {y : Lay} {n c : Nat} {v1 v2 : Value} {l : List UInt8} (h : DiskOK w base y) (b3 : Below w.heap.size w w3)
    (hn : n < y.lp.length) (hl : l.length = y.size)
    (hc : Blk w3 c 90 #[v1, .bool false, .bool false]) (hcw : w.heap.size ≤ c)
    (own1 : w3.ownsRow w.heap.size 5 1 v1 y.size (cB l))
    (own4 : w4.ownsRow base 88 2 v2 (y.wp.length + 1) (wcells y.wp ++ [.int .i64 (n : Int), .pointer (some ⟨c, 0, none⟩)]))
    (gr : w3.grownBy w4 y.wv.ownBlock) (hv2 : v2.ownBlock = y.wv.ownBlock ∨ v2.ownBlock = some w3.heap.size) :
    Next w base y (y.abs.write n l) ((w4.setCell ⟨y.D, 3, none⟩ v2).setCell ⟨y.T, n, none⟩ (.pointer (some ⟨c, 0, none⟩))) := by
  have h3 := h.below b3
  have hbw : base ≤ w.heap.size := Nat.le_trans h.bD (Nat.le_of_lt h.dk.lt)
  -- blocks that neither the append nor the stores reach
  have keep : ∀ k, k < w3.heap.size → some k ≠ y.wv.ownBlock → k ≠ y.D → k ≠ y.T → ((w4.setCell ⟨y.D, 3, none⟩ v2).setCell ⟨y.T, n, none⟩ (.pointer (some ⟨c, 0, none⟩))).heap[k]? = w3.heap[k]? := by
    intro k hk h1 h2 h4
    rw [heap_setCell_other _ _ _ _ h4, heap_setCell_other _ _ _ _ h2]
    exact gr.block k hk h1
  have nw : ∀ {k : Nat} {t : TypeId} {cs : Array Value}, Blk w3 k t cs → t ≠ 88 → some k ≠ y.wv.ownBlock := by
    intro k t cs hb ht e
    exact own_ne h3.wk e.symm hb (fun e => ht e.symm) rfl
  have nwo : ∀ {k m size : Nat} {e : TypeId} {b' : Nat} {v : Value} {xs : List Value}, w3.ownsRow b' e size v m xs → v.ownBlock = some k → e ≠ 88 → some k ≠ y.wv.ownBlock := by
    intro k m size e b' v xs ho hk he e'
    exact own_ne2 ho hk h3.wk e'.symm he rfl
  have hD4 : Blk w4 y.D 85 y.dcells := (gr.block y.D h3.dk.lt (nw h3.dk (by decide))).trans h3.dk
  have hT4 : Blk w4 y.T 86 (y.tp.map ptrV).toArray := (gr.block y.T h3.tk.lt (nw h3.tk (by decide))).trans h3.tk
  have hDT : y.D ≠ y.T := blk_ne h3.dk h3.tk (by decide)
  have nc : ∀ k, y.ids k → k ≠ c := fun k hk e => by have := (h.ck k hk).lt; omega
  have idk : ∀ k, (wrote y n c v1 v2 l).ids k → k = c ∨ (y.ids k ∧ k ≠ c) := by
    intro k hk
    rcases wrote_ids.1 hk with hk | rfl
    · exact .inr ⟨hk, nc k hk⟩
    · exact .inl rfl
  have v2lt : ∀ k, v2.ownBlock = some k → k ≠ y.D ∧ k ≠ y.T := by
    intro k hk
    exact ⟨own_ne own4 hk hD4 (by decide), own_ne own4 hk hT4 (by decide)⟩
  refine ⟨wrote y n c v1 v2 l, ?_, ?_, rfl, ?_, ?_⟩
  · exact {
      dk := by
        refine Blk.far (p := ⟨y.T, n, none⟩) ?_ (by exact hDT) _
        have := hD4.set_ 3 v2
        exact this
      lk := (keep y.L h3.lk.lt (nw h3.lk (by decide)) (fun e => blk_ne h3.lk h3.dk (by decide) e) h.lt).trans h3.lk
      tk := by
        have := (hT4.far (p := ⟨y.D, 3, none⟩) hDT.symm v2).set_ n (.pointer (some ⟨c, 0, none⟩))
        rw [wrote_tp]
        have e : ((y.tp.map ptrV).toArray).setIfInBounds n (.pointer (some ⟨c, 0, none⟩)) = ((y.tp.set n (some c)).map ptrV).toArray := by
          simp [ptrV]
        rw [e] at this
        exact this
      wk := by
        have e : wcells (wrote y n c v1 v2 l).wp = wcells y.wp ++ [.int .i64 (n : Int), .pointer (some ⟨c, 0, none⟩)] := by simp [wcells, wrote]
        have el : (wrote y n c v1 v2 l).wp.length = y.wp.length + 1 := by simp [wrote]
        rw [e, el]
        refine own_frame own4 fun k hk => ?_
        rw [heap_setCell_other _ _ _ _ (v2lt k hk).2, heap_setCell_other _ _ _ _ (v2lt k hk).1]
      ck := fun k hk => by
        rcases idk k hk with rfl | ⟨hk, hne⟩
        · have e : (wrote y n k v1 v2 l).bv k = v1 := if_pos rfl
          have e2 : (wrote y n k v1 v2 l).sect k = ⟨some l, false⟩ := if_pos rfl
          rw [e, e2]
          exact (keep k hc.lt (nw hc (by decide)) (fun e => blk_ne hc h3.dk (by decide) e) (fun e => blk_ne hc h3.tk (by decide) e)).trans hc
        · have e : (wrote y n c v1 v2 l).bv k = y.bv k := if_neg hne
          have e2 : (wrote y n c v1 v2 l).sect k = y.sect k := if_neg hne
          rw [e, e2]
          have hck := h3.ck k hk
          exact (keep k hck.lt (nw hck (by decide)) (fun e => blk_ne hck h3.dk (by decide) e) (fun e => blk_ne hck h3.tk (by decide) e)).trans hck
      bk := fun k hk => by
        rcases idk k hk with rfl | ⟨hk, hne⟩
        · have e : (wrote y n k v1 v2 l).bv k = v1 := if_pos rfl
          have e2 : (wrote y n k v1 v2 l).sect k = ⟨some l, false⟩ := if_pos rfl
          rw [e, e2]
          exact ⟨hl, own_mono (own_frame own1 fun j hj => keep j (own_lt own1 hj).2 (nwo own1 hj (by decide)) (own_ne own1 hj h3.dk (by decide)) (own_ne own1 hj h3.tk (by decide))) hbw⟩
        · have e : (wrote y n c v1 v2 l).bv k = y.bv k := if_neg hne
          have e2 : (wrote y n c v1 v2 l).sect k = y.sect k := if_neg hne
          rw [e, e2]
          have hbk := h3.bk k hk
          cases hs : (y.sect k).bytes with
          | none => rw [hs] at hbk; exact hbk
          | some m =>
            rw [hs] at hbk
            exact ⟨hbk.1, own_frame hbk.2 fun j hj => keep j (own_lt hbk.2 hj).2 (nwo hbk.2 hj (by decide)) (own_ne hbk.2 hj h3.dk (by decide)) (own_ne hbk.2 hj h3.tk (by decide))⟩
      bD := h.bD
      bL := h.bL
      bT := h.bT
      bc := fun k hk => by
        rcases idk k hk with rfl | ⟨hk, _⟩
        · omega
        · exact h.bc k hk
      n1 := h.n1
      n2 := fun i j n' m k hi hj => by
        simp only [wrote] at hi hj
        have low : ∀ (i n' : Nat), (y.wp ++ [(n, c)])[i]? = some (n', k) → (i < y.wp.length ∧ y.wp[i]? = some (n', k)) ∨ (i = y.wp.length ∧ k = c) := by
          intro i n' hi
          rcases Nat.lt_or_ge i y.wp.length with hlt | hge
          · rw [List.getElem?_append_left hlt] at hi
            exact .inl ⟨hlt, hi⟩
          · rw [List.getElem?_append_right hge] at hi
            have : i - y.wp.length = 0 := by
              rcases Nat.eq_zero_or_pos (i - y.wp.length) with h0 | h0
              · exact h0
              · rw [List.getElem?_eq_none (by simp; omega)] at hi; cases hi
            rw [this] at hi
            simp at hi
            exact .inr ⟨by omega, hi.2.symm⟩
        have ne : ∀ (i n' : Nat), y.wp[i]? = some (n', k) → k ≠ c := fun i n' hi => nc k (.inr ⟨n', List.mem_of_getElem? hi⟩)
        rcases low i n' hi with ⟨_, hi⟩ | ⟨hi, hk⟩ <;> rcases low j m hj with ⟨_, hj⟩ | ⟨hj, hk'⟩
        · exact h.n2 i j n' m k hi hj
        · exact absurd hk' (ne _ _ hi)
        · exact absurd hk (ne _ _ hj)
        · omega
      n3 := fun k m hk hm => by
        simp only [wrote] at hk hm
        rcases List.mem_append.1 hm with hm | hm
        · exact h.n3 k m hk hm
        · simp at hm
          exact nc k (.inl hk) hm.2
      nb := fun k k' j hk hk' hj hj' => by
        have bvc : (wrote y n c v1 v2 l).bv c = v1 := if_pos rfl
        have bvn : ∀ k, k ≠ c → (wrote y n c v1 v2 l).bv k = y.bv k := fun k hne => if_neg hne
        rcases idk k hk with rfl | ⟨hk1, hne⟩ <;> rcases idk k' hk' with rfl | ⟨hk1', hne'⟩
        · rfl
        · rw [bvc] at hj
          rw [bvn _ hne'] at hj'
          have h1 := (own_lt own1 hj).1
          have h2 := ((h.bk k' hk1').lt hj').2
          omega
        · rw [bvc] at hj'
          rw [bvn _ hne] at hj
          have h1 := (own_lt own1 hj').1
          have h2 := ((h.bk k hk1).lt hj).2
          omega
        · rw [bvn _ hne] at hj
          rw [bvn _ hne'] at hj'
          exact h.nb k k' j hk1 hk1' hj hj'
      lt := h.lt
      wr := fun m k hm => by
        simp only [wrote] at hm
        rcases List.mem_append.1 hm with hm | hm
        · exact h.wr m k hm
        · simp at hm
          show m < y.lp.length
          omega
      s1 := h.s1
      s2 := h.s2
      l1 := h.l1
      l2 := h.l2 }
  · have hsec : ∀ k, y.ids k → (wrote y n c v1 v2 l).sect k = y.sect k := fun k hk => if_neg (nc k hk)
    have hsc : (wrote y n c v1 v2 l).sect c = ⟨some l, false⟩ := if_pos rfl
    show Dsk.mk _ _ _ _ = Dsk.mk _ _ _ _
    congr 1
    · apply List.map_congr_left
      intro o ho
      cases o with
      | none => rfl
      | some k => exact hsec k (.inl ho)
    · show (y.wp ++ [(n, c)]).map _ = (y.wp.map _) ++ [_]
      rw [List.map_append]
      congr 1
      · apply List.map_congr_left
        intro x hx
        simp only [Prod.mk.injEq, true_and]
        exact hsec x.2 (.inr ⟨x.1, hx⟩)
      · simp [hsc]
  · exact ((((Kept.of_below b3 y.foot).grown gr (fun k hk => .inl (.inr (.inr (.inr (.inl hk)))))).setCell (.inl (.inl rfl)) _).setCell (.inl (.inr (.inr (.inl rfl)))) _)
  · intro k hk
    have hsz := b3.size
    rcases hk with rfl | rfl | rfl | hk | hk | ⟨k', hk', hj⟩
    · exact .inl (.inl rfl)
    · exact .inl (.inr (.inl rfl))
    · exact .inl (.inr (.inr (.inl rfl)))
    · have hk2 : v2.ownBlock = some k := hk
      rcases hv2 with e | e
      · exact .inl (.inr (.inr (.inr (.inl (by rw [← e]; exact hk2)))))
      · rw [e] at hk2; injection hk2 with hk2; right; omega
    · rcases idk k hk with rfl | ⟨hk, _⟩
      · exact .inr hcw
      · exact .inl (.inr (.inr (.inr (.inr (.inl hk)))))
    · rcases idk k' hk' with rfl | ⟨hk', hne⟩
      · have e : (wrote y n k' v1 v2 l).bv k' = v1 := if_pos rfl
        rw [e] at hj
        exact .inr (own_lt own1 hj).1
      · have e : (wrote y n c v1 v2 l).bv k' = y.bv k' := if_neg hne
        rw [e] at hj
        exact .inl (.inr (.inr (.inr (.inr (.inr ⟨k', hk', hj⟩)))))
end Go.Proofs.YtendnkklbeiegaaGreatDoor
namespace Go.Proofs.YtendnkklbeiegaaGreatDoor
open Go.RowKit DiskP

/-- It tells an error or none; the disk goes on. -/
def RetErr (w : World) (base : Nat) (y : Lay) (k : Int) (S : Dsk) (e : Ending) (w' : World) : Prop := e = .returned (.int .i64 k) ∧ Next w base y S w'
def DiskP.Dsk.writeS (d : Dsk) (n : Int) (l : List UInt8) : Dsk := if d.writeE n l = 0 then d.write n.toNat l else d

theorem write_no (y : Lay) (n : Int) (l : List UInt8) (A : Option Addr) (cap : Nat) (w : World) (base : Nat) (h : DiskOK w base y) (_hl : l.length ≤ 9223372036854775807) (hno : y.abs.writeE n l ≠ 0) :
    Calls Tryz.prog 114 #[.pointer (some ⟨y.D, 0, none⟩), .int .i64 n, .slice A l.length cap] w (RetErr w base y (y.abs.writeE n l) y.abs) := by
  have h1 := hasB_abs y n
  have c0 := h.c0
  cases hh : hasB y n
  · have HR : Hid (y.abs.writeE n l = 1) := by show _ = _; unfold Dsk.writeE; rw [h1, hh]; rfl
    clear h1
    go_enter Tryz.func114, Tryz.ntmps114
    go_wp2_with fail
    refine (has_calls y n w base h).mono ?_
    rintro e w' ⟨rfl, rfl⟩
    rw [hh]
    go_wp2
    go_ret
    exact ⟨by rw [HR.out]; rfl, Next.same h⟩
  · by_cases hz : l.length = y.size
    · have hoff : y.off = true := by
        cases ho : y.off
        · refine absurd ?_ hno
          unfold Dsk.writeE
          have : y.abs.off = false := ho
          have e2 : y.abs.size = y.size := rfl
          rw [h1, hh, e2, this]
          simp [hz]
        · rfl
      have HR : Hid (y.abs.writeE n l = 10) := by
        show _ = _
        unfold Dsk.writeE
        have : y.abs.off = true := hoff
        have e2 : y.abs.size = y.size := rfl
        rw [h1, hh, e2, this]
        simp [hz]
      clear h1
      have c4 := h.c4
      rw [hoff] at c4
      have hne : ((l.length : Int) != (y.size : Int)) = false := by simp [hz]
      have Hz := Lib.hid hz
      clear hz
      go_enter Tryz.func114, Tryz.ntmps114
      go_wp2_with fail
      refine (has_calls y n w base h).mono ?_
      rintro e w' ⟨rfl, rfl⟩
      rw [hh]
      go_wp2
      go_ret
      exact ⟨by rw [HR.out]; rfl, Next.same h⟩
    · have HR : Hid (y.abs.writeE n l = 1) := by
        show _ = _
        unfold Dsk.writeE
        have e2 : y.abs.size = y.size := rfl
        rw [h1, hh, e2]
        simp [hz]
      clear h1
      have hne : ((l.length : Int) != (y.size : Int)) = true := by simp; omega
      go_enter Tryz.func114, Tryz.ntmps114
      go_wp2_with fail
      refine (has_calls y n w base h).mono ?_
      rintro e w' ⟨rfl, rfl⟩
      rw [hh]
      go_wp2
      go_ret
      exact ⟨by rw [HR.out]; rfl, Next.same h⟩

theorem write_yes (y : Lay) (n : Nat) (l : List UInt8) (A : Option Addr) (cap : Nat) (w : World) (base : Nat) (h : DiskOK w base y) (hR : RB w A l)
    (hn : n < y.lp.length) (hl : l.length = y.size) (ho : y.off = false) (hw : y.wp.length ≤ 1000000000) :
    Calls Tryz.prog 114 #[.pointer (some ⟨y.D, 0, none⟩), .int .i64 (n : Int), .slice A y.size cap] w (RetErr w base y 0 (y.abs.write n l)) := by
  have hh : hasB y (n : Int) = true := by simp [hasB]; omega
  have c0 := h.c0
  have c4 := h.c4
  rw [ho] at c4
  have hs2 := h.s2
  have Hl := Lib.hid hl
  clear hl
  have hne : ((y.size : Int) != (y.size : Int)) = false := by simp
  go_enter Tryz.func114, Tryz.ntmps114
  go_wp2_with fail
  refine (has_calls y n w base h).mono ?_
  rintro e w' ⟨rfl, rfl⟩
  rw [hh]
  go_wp2_with ((with_reducible show wpList _ _ _ (⟨some 28, _, _, _, _, _⟩ :: _) _ _); refine wpList_append_rv el_u8 rfl (.const (.slice none 0 0)) (.tmp 27) rfl w.heap.size _ 0 [] rfl (World.ownsRow_nil _ _ _ _) A y.size cap (cB l) rfl ?e1 hR (cB_one _) ?e2 ?e3 ?e4 ?_)
  case e1 => rw [cB_len, Nat.mul_one, Hl.out]
  case e2 => unfold maxLen; omega
  case e3 => omega
  case e4 => exact Nat.le_refl _
  intro v1 w1 own1 gr1 _
  have b1 : Below w.heap.size w w1 := (Below.refl _ _).grown gr1 (Nat.le_refl _) (fun k hk => by cases hk)
  have h1 := h.below b1
  obtain ⟨A1, cp1, hv1, _, _⟩ := own_form own1
  subst hv1
  have c3 : ∀ o, (w1.alloc o).cell? ⟨y.D, 3, none⟩ = some y.wv := fun o => (World.cell?_alloc_lt w1 o ⟨y.D, 3, none⟩ h1.dk.lt).trans h1.c3
  clear gr1 c4 c0
  have rv2 : ∀ (o : Obj) (a b : Value), RV ((w1.alloc o).alloc (.cells #[a, b] 88)) (some ⟨w1.heap.size + 1, 0, none⟩) [a, b] := by
    intro o a b
    have := RV.new (w1.alloc o) [a, b] 88 (0, 0)
    simpa using this
  go_wp2_with ((with_reducible show wpList _ _ _ (⟨some 40, _, _, _, _, _⟩ :: _) _ _); refine wpList_append_rv el_wr rfl (.tmp 35) (.tmp 39) rfl base y.wv y.wp.length (wcells y.wp) rfl ((h1.wk.alloc _).alloc _) (some ⟨w1.heap.size + 1, 0, none⟩) 1 1 [.int .i64 (n : Int), .pointer (some ⟨w1.heap.size, 0, none⟩)] rfl rfl (rv2 _ _ _) ?f3 ?f4 ?f5 ?f6 ?_)
  case f3 => intro u hu; simp at hu; rcases hu with rfl | rfl <;> rfl
  case f4 => unfold maxLen; omega
  case f5 => omega
  case f6 => have := h1.bD; have := h1.dk.lt; simp; omega
  intro v2 w4 own4 gr4 hv2
  obtain ⟨A2, cp2, hv2f, _, _⟩ := own_form own4
  have hb3 : Below w.heap.size w ((w1.alloc (.cells #[.slice A1 y.size cp1, .bool false, .bool false] 90)).alloc (.cells #[.int .i64 (n : Int), .pointer (some ⟨w1.heap.size, 0, none⟩)] 88)) :=
    (b1.alloc b1.size _).alloc (Nat.le_trans b1.size (by simp)) _
  have hcb : Blk ((w1.alloc (.cells #[.slice A1 y.size cp1, .bool false, .bool false] 90)).alloc (.cells #[.int .i64 (n : Int), .pointer (some ⟨w1.heap.size, 0, none⟩)] 88)) w1.heap.size 90 #[.slice A1 y.size cp1, .bool false, .bool false] :=
    (Blk.new w1 _ _).alloc _
  have HN := Lib.hid (write_ok h hb3 hn Hl.out hcb b1.size ((own1.alloc _).alloc _) own4 gr4 (by simpa using hv2))
  have hD : Blk w4 y.D 85 y.dcells := by
    have h3 := h.below hb3
    exact (gr4.block y.D h3.dk.lt (fun e => own_ne h3.wk e.symm h3.dk (by decide) rfl)).trans h3.dk
  have hTb : Blk w4 y.T 86 (y.tp.map ptrV).toArray := by
    have h3 := h.below hb3
    exact (gr4.block y.T h3.tk.lt (fun e => own_ne h3.wk e.symm h3.tk (by decide) rfl)).trans h3.tk
  have d2 : w4.cell? ⟨y.D, 2, none⟩ = some (.slice (some ⟨y.T, 0, none⟩) y.lp.length y.lp.length) := hD.at_ rfl
  have d3 : w4.cell? ⟨y.D, 3, none⟩ = some y.wv := hD.at_ rfl
  have z3 := hD.frozen 3
  obtain ⟨pv, t1⟩ : ∃ pv, w4.cell? ⟨y.T, n, none⟩ = some pv := by
    have hlt : n < y.tp.length := by rw [tp_len]; exact hn
    exact ⟨ptrV y.tp[n], hTb.at_ (by simp [hlt])⟩
  have zt := hTb.frozen n
  have hDT : y.D ≠ y.T := blk_ne h.dk h.tk (by decide)
  subst hv2f
  clear own4 gr4 hv2 hD hTb hcb hb3 rv2 c3 own1 b1 h1
  go_wp2
  go_ret
  exact ⟨rfl, HN.out⟩

theorem write_calls (y : Lay) (n : Int) (l : List UInt8) (A : Option Addr) (cap : Nat) (w : World) (base : Nat) (h : DiskOK w base y) (hR : RB w A l) (hl : l.length ≤ 9223372036854775807) (hw : y.wp.length ≤ 1000000000) :
    Calls Tryz.prog 114 #[.pointer (some ⟨y.D, 0, none⟩), .int .i64 n, .slice A l.length cap] w (RetErr w base y (y.abs.writeE n l) (y.abs.writeS n l)) := by
  by_cases hno : y.abs.writeE n l = 0
  · have hS : y.abs.writeS n l = y.abs.write n.toNat l := if_pos hno
    rw [hS, hno]
    have h1 := hasB_abs y n
    have hsz : y.abs.size = y.size := rfl
    have hof : y.abs.off = y.off := rfl
    unfold Dsk.writeE at hno
    rw [h1, hsz, hof] at hno
    cases hh : hasB y n
    · rw [hh] at hno; simp at hno
    · rw [hh] at hno
      obtain ⟨hn0, hn1⟩ : 0 ≤ n ∧ n < y.lp.length := by simpa [hasB] using hh
      obtain ⟨n, rfl⟩ := Int.eq_ofNat_of_zero_le hn0
      have hlen : l.length = y.size := by
        rcases Classical.em (l.length = y.size) with h | h
        · exact h
        · simp [h] at hno
      have hoff : y.off = false := by
        cases ho : y.off
        · rfl
        · simp [ho, hlen] at hno
      rw [hlen, Int.toNat_natCast]
      exact write_yes y n l A cap w base h hR (by omega) hlen hoff hw
  · have hS : y.abs.writeS n l = y.abs := if_neg hno
    rw [hS]
    exact write_no y n l A cap w base h hl hno
end Go.Proofs.YtendnkklbeiegaaGreatDoor
namespace Go.Proofs.YtendnkklbeiegaaGreatDoor
open Go.RowKit DiskP

theorem wcells_get (wp : List (Nat × Nat)) (i : Nat) (x : Nat × Nat) (h : wp[i]? = some x) : (wcells wp)[i * 2]? = some (.int .i64 (x.1 : Int)) ∧ (wcells wp)[i * 2 + 1]? = some (.pointer (some ⟨x.2, 0, none⟩)) := by
  induction wp generalizing i with
  | nil => simp at h
  | cons z wp ih =>
    show ([.int .i64 (z.1 : Int), .pointer (some ⟨z.2, 0, none⟩)] ++ wcells wp)[i * 2]? = _ ∧ ([.int .i64 (z.1 : Int), .pointer (some ⟨z.2, 0, none⟩)] ++ wcells wp)[i * 2 + 1]? = _
    cases i with
    | zero => simp at h; subst h; simp
    | succ i =>
      have := ih i (by simpa using h)
      rw [show (i + 1) * 2 = i * 2 + 1 + 1 by omega]
      simpa using this
/-- The cells of a write that waits. -/
theorem DiskOK.wcell {w : World} {base : Nat} {y : Lay} (h : DiskOK w base y) {i : Nat} (hi : i < y.wp.length) : ∃ g cap, y.wv = .slice (some ⟨g, 0, none⟩) y.wp.length cap ∧ g < w.heap.size ∧
    w.cell? ⟨g, i * 2, none⟩ = some (.int .i64 ((y.wp[i]).1 : Int)) ∧ w.cell? ⟨g, i * 2 + 1, none⟩ = some (.pointer (some ⟨(y.wp[i]).2, 0, none⟩)) := by
  have hk := h.wk
  obtain ⟨A, c, hv, _, _⟩ := own_form hk
  rcases hk.2 with ⟨_, h0⟩ | ⟨g, cap, cur, hv', _, hg, _⟩
  · omega
  · have := wcells_get y.wp i y.wp[i] (List.getElem?_eq_getElem hi)
    rw [hv'] at hk
    refine ⟨g, cap, hv', lt_of_block hg, ?_, ?_⟩
    · rw [hk.cellAt _ (by omega)]; exact this.1
    · rw [hk.cellAt _ (by omega)]; exact this.2

theorem flush_off (y : Lay) (w : World) (base : Nat) (h : DiskOK w base y) (ho : y.off = true) :
    Calls Tryz.prog 104 #[.pointer (some ⟨y.D, 0, none⟩)] w (RetErr w base y 10 y.abs) := by
  have c4 := h.c4
  rw [ho] at c4
  go_enter Tryz.func104, Tryz.ntmps104
  go_wp2
  go_ret
  exact ⟨rfl, Next.same h⟩

/-- Where only the row of what lasts has turned. -/
structure Flushing (w : World) (base : Nat) (y : Lay) (k : Nat) (wr : World) : Prop where
  kept : Kept (fun j => j = y.L) w wr
  row : Blk wr y.L 86 ((applyW y.lp (someW (y.wp.take k))).map ptrV).toArray
theorem Flushing.other {w wr : World} {base : Nat} {y : Lay} {k : Nat} (_h : DiskOK w base y) (f : Flushing w base y k wr) {g : Nat} {t : TypeId} {cs : Array Value} (hb : Blk w g t cs) (ht : g ≠ y.L) : Blk wr g t cs :=
  (f.kept.block g hb.lt ht).trans hb
def flushed (y : Lay) : Lay := { y with lp := y.tp, wp := [], wv := .slice none 0 0 }
theorem flushed_ids {y : Lay} {c : Nat} (h : (flushed y).ids c) : y.ids c := by
  rcases h with h | ⟨n, h⟩
  · exact tp_ids y h
  · simp [flushed] at h
theorem tp_home {w : World} {base : Nat} {y : Lay} (h : DiskOK w base y) {i j c : Nat} (hi : y.tp[i]? = some (some c)) (hj : y.tp[j]? = some (some c)) : i = j := by
  have key : ∀ i, y.tp[i]? = some (some c) → (y.lp[i]? = some (some c)) ∨ (i, c) ∈ y.wp := by
    intro i hi
    have hlt : i < y.lp.length := by
      have := (List.getElem?_eq_some_iff.1 hi).1
      rwa [tp_len] at this
    have e := applyW_get y.lp (someW y.wp) i hlt
    have e2 : y.tp[i]? = some ((lastW (someW y.wp) i).getD y.lp[i]) := e
    rw [hi] at e2
    injection e2 with e2
    cases hl : lastW (someW y.wp) i with
    | none =>
      rw [hl] at e2
      left
      rw [List.getElem?_eq_getElem hlt]
      exact congrArg some e2.symm
    | some o =>
      rw [hl] at e2
      simp only [Option.getD_some] at e2
      subst e2
      rw [lastW_idx] at hl
      cases hx : lastIdx (someW y.wp) i with
      | none => rw [hx] at hl; cases hl
      | some m =>
        rw [hx] at hl
        obtain ⟨z, hz⟩ := lastIdx_lt hx
        simp only [Option.bind_some, hz, Option.map_some] at hl
        injection hl with hl
        subst hl
        have := List.mem_of_getElem? hz
        simp only [someW, List.mem_map] at this
        obtain ⟨x, hx, he⟩ := this
        injection he with h1 h2
        injection h2 with h2
        right
        rw [← h1, ← h2]
        exact hx
  rcases key i hi with hi | hi <;> rcases key j hj with hj | hj
  · exact h.n1 i j c hi hj
  · exact (h.n3 c j (List.mem_of_getElem? hi) hj).elim
  · exact (h.n3 c i (List.mem_of_getElem? hj) hi).elim
  · obtain ⟨a, ha⟩ := List.getElem?_of_mem hi
    obtain ⟨b, hb⟩ := List.getElem?_of_mem hj
    have := h.n2 a b i j c ha hb
    subst this
    rw [ha] at hb
    injection hb with hb
    injection hb with hb _
theorem flush_ok {w wr : World} {base : Nat} {y : Lay} (h : DiskOK w base y) (_ho : y.off = false) (f : Flushing w base y y.wp.length wr) :
    Next w base y y.abs.flush (wr.setCell ⟨y.D, 3, none⟩ (.slice none 0 0)) := by
  have row : Blk wr y.L 86 (y.tp.map ptrV).toArray := by
    have := f.row
    rw [List.take_length] at this
    exact this
  have hLD : y.L ≠ y.D := blk_ne h.lk h.dk (by decide)
  have keep : ∀ k, k < w.heap.size → k ≠ y.L → k ≠ y.D → (wr.setCell ⟨y.D, 3, none⟩ (.slice none 0 0)).heap[k]? = w.heap[k]? := by
    intro k hk h1 h2
    rw [heap_setCell_other _ _ _ _ h2]
    exact f.kept.block k hk h1
  have hD := f.other h h.dk hLD.symm
  refine ⟨flushed y, ?_, ?_, rfl, (f.kept.mono (fun k _ hk => .inr (.inl hk))).setCell (.inl (.inl rfl)) _, ?_⟩
  · exact {
      dk := by
        have := hD.set_ 3 (.slice none 0 0)
        have e : (flushed y).dcells = y.dcells.setIfInBounds 3 (.slice none 0 0) := by simp [flushed, Lay.dcells, tp_len]
        rw [e]
        exact this
      lk := row.far (p := ⟨y.D, 3, none⟩) hLD _
      tk := (keep y.T h.tk.lt (fun e => h.lt e.symm) (blk_ne h.tk h.dk (by decide))).trans h.tk
      wk := World.ownsRow_nil _ _ _ _
      ck := fun c hc => by
        have hck := h.ck c (flushed_ids hc)
        exact (keep c hck.lt (blk_ne hck h.lk (by decide)) (blk_ne hck h.dk (by decide))).trans hck
      bk := fun c hc => by
        have hbk := h.bk c (flushed_ids hc)
        show BytesOK _ _ y.size (y.bv c) (y.sect c).bytes
        cases hs : (y.sect c).bytes with
        | none => rw [hs] at hbk; exact hbk
        | some m =>
          rw [hs] at hbk
          exact ⟨hbk.1, own_frame hbk.2 fun j hj => keep j (own_lt hbk.2 hj).2 (own_ne hbk.2 hj h.lk (by decide)) (own_ne hbk.2 hj h.dk (by decide))⟩
      bD := h.bD
      bL := h.bL
      bT := h.bT
      bc := fun c hc => h.bc c (flushed_ids hc)
      n1 := fun i j c hi hj => tp_home h hi hj
      n2 := fun i j n m c hi _ => by simp [flushed] at hi
      n3 := fun c n _ hn => by simp [flushed] at hn
      nb := fun c c' k hc hc' => h.nb c c' k (flushed_ids hc) (flushed_ids hc')
      lt := h.lt
      wr := fun n c hn => by simp [flushed] at hn
      s1 := h.s1
      s2 := h.s2
      l1 := by show 1 ≤ y.tp.length; rw [tp_len]; exact h.l1
      l2 := by show y.tp.length ≤ 65536; rw [tp_len]; exact h.l2 }
  · show Dsk.mk _ _ _ _ = Dsk.mk _ _ _ _
    congr 1
    exact (abs_told y).symm
  · intro k hk
    rcases hk with rfl | rfl | rfl | hk | hk | ⟨c, hc, hk⟩
    · exact .inl (.inl rfl)
    · exact .inl (.inr (.inl rfl))
    · exact .inl (.inr (.inr (.inl rfl)))
    · cases hk
    · exact .inl (.inr (.inr (.inr (.inr (.inl (flushed_ids hk))))))
    · exact .inl (.inr (.inr (.inr (.inr (.inr ⟨c, flushed_ids hc, hk⟩)))))
theorem flush_on (y : Lay) (w : World) (base : Nat) (h : DiskOK w base y) (ho : y.off = false) (hw : y.wp.length ≤ 1000000000) :
    Calls Tryz.prog 104 #[.pointer (some ⟨y.D, 0, none⟩)] w (RetErr w base y 0 y.abs.flush) := by
  have c4 := h.c4
  rw [ho] at c4
  have c3 := h.c3
  obtain ⟨A, cp, hv, _, _⟩ := own_form h.wk
  rw [hv] at c3
  go_enter Tryz.func104, Tryz.ntmps104
  go_wp2
  go_loopw [4, 16] (fun _ i wr => ∃ k : Nat, k ≤ y.wp.length ∧ i = .int .i64 k ∧ Flushing w base y k wr) (fun _ i _ => y.wp.length - (intOf i).toNat)
  case atStart => exact ⟨0, by omega, rfl, Kept.refl _ _, h.lk⟩
  case round =>
    obtain ⟨k, hk, rfl, f⟩ := hrel
    have hLD : y.D ≠ y.L := blk_ne h.dk h.lk (by decide)
    have hD := f.other h h.dk hLD
    by_cases hlt : k < y.wp.length
    · obtain ⟨g, cap, hv', hg, k0, k1⟩ := h.wcell hlt
      have hvv := hv.symm.trans hv'
      injection hvv with hA _ hcp
      subst hA
      subst hcp
      have hgL : g ≠ y.L := own_ne h.wk (by rw [hv']; rfl) h.lk (by decide)
      have k0' : wr.cell? ⟨g, k * 2, none⟩ = some (.int .i64 ((y.wp[k]).1 : Int)) := (World.cell?_of_block (w := w) (f.kept.block g hg hgL)).trans k0
      have k1' : wr.cell? ⟨g, k * 2 + 1, none⟩ = some (.pointer (some ⟨(y.wp[k]).2, 0, none⟩)) := (World.cell?_of_block (w := w) (f.kept.block g hg hgL)).trans k1
      have hS := applyW_length y.lp (someW (y.wp.take k))
      have hwr : (y.wp[k]).1 < y.lp.length := h.wr _ (y.wp[k]).2 (List.getElem_mem hlt)
      have HT : Hid (applyW y.lp (someW (y.wp.take (k + 1))) = (applyW y.lp (someW (y.wp.take k))).set (y.wp[k]).1 (some (y.wp[k]).2)) := by
        show _ = _
        rw [List.take_succ_eq_append_getElem hlt]
        have : someW (y.wp.take k ++ [y.wp[k]]) = someW (y.wp.take k) ++ [((y.wp[k]).1, some (y.wp[k]).2)] := by unfold someW; rw [List.map_append]; rfl
        rw [this, toldW_snoc]
      generalize y.wp[k] = x at *
      obtain ⟨n, c⟩ := x
      simp only at k0' k1' hwr HT
      have d1 : wr.cell? ⟨y.D, 1, none⟩ = some (.slice (some ⟨y.L, 0, none⟩) y.lp.length y.lp.length) := hD.at_ rfl
      have hDl := hD.lt
      have hLl := f.row.lt
      obtain ⟨pv, cL⟩ : ∃ pv, wr.cell? ⟨y.L, n, none⟩ = some pv := by
        have hlt : n < (applyW y.lp (someW (y.wp.take k))).length := by rw [hS]; exact hwr
        exact ⟨ptrV (applyW y.lp (someW (y.wp.take k)))[n], f.row.at_ (by simp [hlt])⟩
      have zL := f.row.frozen n
      clear k0 k1 c3 c4 hS hv hv' hD
      go_wp2
      go_region
      go_wp2
      go_roundw
      case rel =>
        refine ⟨k + 1, by omega, by go_num, (((f.kept.setCell (.inl rfl) _).alloc _).drew), ?_⟩
        have := (f.row.set_ n (.pointer (some ⟨c, 0, none⟩))).alloc (.cells #[.int .i64 (n : Int), .pointer (some ⟨c, 0, none⟩)] 88)
        rw [HT.out]
        have e : (((applyW y.lp (someW (y.wp.take k))).map ptrV).toArray).setIfInBounds n (.pointer (some ⟨c, 0, none⟩)) = (((applyW y.lp (someW (y.wp.take k))).set n (some c)).map ptrV).toArray := by simp [ptrV]
        rw [e] at this
        exact this
      case measure => simp [intOf]; omega
    · obtain rfl : k = y.wp.length := by omega
      have hDl := hD.lt
      have d3 : wr.cell? ⟨y.D, 3, none⟩ = some y.wv := hD.at_ rfl
      have z3 := hD.frozen 3
      have HN := Lib.hid (flush_ok h ho f)
      clear hv
      go_wp2
      go_ret
      exact ⟨rfl, HN.out⟩
end Go.Proofs.YtendnkklbeiegaaGreatDoor
namespace Go.Proofs.YtendnkklbeiegaaGreatDoor
open Go.RowKit

def sizeN (v : Nat) : Nat := 5 + 7 * v
def bytesN (v no : Nat) : Nat := min (no * 4 + 4) (sizeN v) - no * 4
def byteT (v no k : Nat) : UInt8 := UInt8.ofNat (11 * (no * 4 + k) + 3 * v)
def bytesT (v no : Nat) : List UInt8 := (List.range (bytesN v no)).map (byteT v no)
theorem size_top_calls (v : Nat) (w : World) (h : v ≤ 1000) :
    Calls Tryz.prog 37 #[.int .i64 (v : Int)] w fun e w' => e = .returned (.int .i64 (sizeN v : Int)) ∧ w = w' := by
  have s1 : IntKind.i64.wrap (7 * (v : Int)) = 7 * (v : Int) := by rw [IntKind.wrap_i64]; omega
  have s2 : IntKind.i64.wrap (5 + 7 * (v : Int)) = 5 + 7 * (v : Int) := by rw [IntKind.wrap_i64]; omega
  have HE : Hid ((sizeN v : Int) = 5 + 7 * (v : Int)) := by show _ = _; unfold sizeN; omega
  go_enter Tryz.func37, Tryz.ntmps37
  go_wp2
  go_ret
  exact ⟨by rw [HE.out]; rfl, rfl⟩
theorem right_sto_calls (n : Int) (w : World) (h0 : 0 ≤ n) (h1 : n ≤ 1099511627776) :
    Calls Tryz.prog 56 #[.int .i64 n] w fun e w' => e = .returned (.bool true) ∧ w = w' := by
  have d1 : decide (0 ≤ n) = true := decide_eq_true h0
  have d2 : decide (n ≤ 1099511627776) = true := decide_eq_true h1
  go_enter Tryz.func56, Tryz.ntmps56
  go_wp2
  go_ret
  exact ⟨rfl, rfl⟩
def RetBy (w : World) (l : List UInt8) (e : Ending) (w' : World) : Prop := ∃ A c, e = .returned (.slice A l.length c) ∧ w'.ownsRow w.heap.size 5 1 (.slice A l.length c) l.length (cB l) ∧ Below w.heap.size w w'
theorem bytes_top_calls (v no : Nat) (w : World) (hv : v ≤ 1000) (hno : no ≤ 1000) :
    Calls Tryz.prog 12 #[.int .i64 (v : Int), .int .i64 (no : Int)] w (RetBy w (bytesT v no)) := by
  have SC := fun w' => size_top_calls v w' hv
  have s1 : IntKind.i64.wrap ((no : Int) * 4) = (no : Int) * 4 := by rw [IntKind.wrap_i64]; omega
  have s2 : IntKind.i64.wrap ((no : Int) * 4 + 4) = (no : Int) * 4 + 4 := by rw [IntKind.wrap_i64]; omega
  have hsz : sizeN v ≤ 8000 := by unfold sizeN; omega
  go_enter Tryz.func12, Tryz.ntmps12
  go_wp2_with fail
  have HE : Hid (∀ (A : Option Addr) (c : Nat) (wr : World), wr.ownsRow w.heap.size 5 1 (.slice A (bytesN v no) c) (bytesN v no) (cB ((List.range (bytesN v no)).map (byteT v no))) → Below w.heap.size w wr → RetBy w (bytesT v no) (.returned (.slice A (bytesN v no) c)) wr) := fun A c wr ho hb => by
    have hl : (bytesT v no).length = bytesN v no := by simp [bytesT]
    exact ⟨A, c, by rw [hl], by rw [hl]; exact ho, hb⟩
  go_loopw [5, 6] (fun r i wr => ∃ k : Nat, k ≤ bytesN v no ∧ i = .int .i64 ((no : Int) * 4 + (k : Int)) ∧ wr.ownsRow w.heap.size 5 1 r k (cB ((List.range k).map (byteT v no))) ∧ Below w.heap.size w wr) (fun _ i _ => (bytesN v no + no * 4) - (intOf i).toNat)
  case atStart => exact ⟨0, Nat.zero_le _, by simp, World.ownsRow_nil _ _ _ _, Below.refl _ _⟩
  case round =>
    obtain ⟨k, hk, rfl, hown, bel⟩ := hrel
    obtain ⟨A, c, rfl, _, _⟩ := own_form hown
    have HC : Hid (cB ((List.range (k + 1)).map (byteT v no)) = cB ((List.range k).map (byteT v no)) ++ [.int .u8 ((11 * ((no : Int) * 4 + (k : Int)) + 3 * (v : Int)) % 256)]) := by
      show _ = _
      rw [List.range_succ, List.map_append, cB_append]
      congr 1
    have hbn : bytesN v no = min (no * 4 + 4) (sizeN v) - no * 4 := rfl
    have l1 : k + 1 ≤ maxLen := by unfold maxLen; omega
    have l2 : (k + 1) * 1 ≤ 140737488355328 := by omega
    by_cases m : sizeN v < no * 4 + 4
    · by_cases hlt : k < bytesN v no
      · have dm : (sizeN v : Int) < (no : Int) * 4 + 4 := by omega
        have d2 : decide ((no : Int) * 4 + (k : Int) < (sizeN v : Int)) = true := decide_eq_true (by omega)
        have s6 : IntKind.i64.wrap ((no : Int) * 4 + (k : Int) + 1) = (no : Int) * 4 + ((k + 1 : Nat) : Int) := by rw [IntKind.wrap_i64]; omega
        clear hk m hbn
        go_wp2_with (first
          | ((with_reducible show wpList _ _ _ (⟨some 27, _, _, _, _, _⟩ :: _) _ _); refine wpList_append_rv el_u8 rfl (.tmp 19) (.tmp 26) rfl w.heap.size (.slice A k c) k (cB ((List.range k).map (byteT v no))) rfl (hown.alloc _) (some ⟨wr.heap.size, 0, none⟩) 1 1 [.int .u8 ((11 * ((no : Int) * 4 + (k : Int)) + 3 * (v : Int)) % 256)] rfl rfl (RV.new wr [.int .u8 ((11 * ((no : Int) * 4 + (k : Int)) + 3 * (v : Int)) % 256)] 5 (0, 0)) (one_of_int _ _) l1 l2 (by have := bel.size; simp; omega) ?_; intro v3 w3 own3 gr3 hv3; have bel3 : Below w.heap.size w w3 := (bel.alloc bel.size _).grown gr3 (by have := bel.size; simp; omega) (fun j hj => (hown.lt j hj).1); have HO := Lib.hid own3; clear own3 gr3 hv3)
          | ((refine (SC _).mono ?_); rintro _ w1 ⟨rfl, rfl⟩))
        go_roundw
        case rel => exact ⟨k + 1, hlt, by go_num, by have := HO.out; rw [← HC.out] at this; exact this, bel3⟩
        case measure => simp [intOf]; omega
      · have dm : (sizeN v : Int) < (no : Int) * 4 + 4 := by omega
        have d2 : decide ((no : Int) * 4 + (k : Int) < (sizeN v : Int)) = false := decide_eq_false (by omega)
        obtain rfl : k = bytesN v no := by omega
        have HO := Lib.hid hown
        clear hk hbn m
        go_wp2_with ((refine (SC _).mono ?_); rintro _ w1 ⟨rfl, rfl⟩)
        go_ret
        exact HE.out A c wr HO.out bel
    · by_cases hlt : k < bytesN v no
      · have dm : ¬ (sizeN v : Int) < (no : Int) * 4 + 4 := by omega
        have d2 : decide ((no : Int) * 4 + (k : Int) < (no : Int) * 4 + 4) = true := decide_eq_true (by omega)
        have d3 : decide ((k : Int) < 4) = true := decide_eq_true (by omega)
        have d4 : decide (k < 4) = true := decide_eq_true (by omega)
        have s6 : IntKind.i64.wrap ((no : Int) * 4 + (k : Int) + 1) = (no : Int) * 4 + ((k + 1 : Nat) : Int) := by rw [IntKind.wrap_i64]; omega
        clear hk m hbn
        go_wp2_with (first
          | ((with_reducible show wpList _ _ _ (⟨some 27, _, _, _, _, _⟩ :: _) _ _); refine wpList_append_rv el_u8 rfl (.tmp 19) (.tmp 26) rfl w.heap.size (.slice A k c) k (cB ((List.range k).map (byteT v no))) rfl (hown.alloc _) (some ⟨wr.heap.size, 0, none⟩) 1 1 [.int .u8 ((11 * ((no : Int) * 4 + (k : Int)) + 3 * (v : Int)) % 256)] rfl rfl (RV.new wr [.int .u8 ((11 * ((no : Int) * 4 + (k : Int)) + 3 * (v : Int)) % 256)] 5 (0, 0)) (one_of_int _ _) l1 l2 (by have := bel.size; simp; omega) ?_; intro v3 w3 own3 gr3 hv3; have bel3 : Below w.heap.size w w3 := (bel.alloc bel.size _).grown gr3 (by have := bel.size; simp; omega) (fun j hj => (hown.lt j hj).1); have HO := Lib.hid own3; clear own3 gr3 hv3)
          | ((refine (SC _).mono ?_); rintro _ w1 ⟨rfl, rfl⟩))
        go_roundw
        case rel => exact ⟨k + 1, hlt, by go_num, by have := HO.out; rw [← HC.out] at this; exact this, bel3⟩
        case measure => simp [intOf]; omega
      · have dm : ¬ (sizeN v : Int) < (no : Int) * 4 + 4 := by omega
        have d2 : decide ((no : Int) * 4 + (k : Int) < (no : Int) * 4 + 4) = false := decide_eq_false (by omega)
        have d3 : decide ((k : Int) < 4) = false := decide_eq_false (by omega)
        have d4 : decide (k < 4) = false := decide_eq_false (by omega)
        have d5 : decide ((bytesN v no : Int) < 4) = false := decide_eq_false (by omega)
        have d6 : decide (bytesN v no < 4) = false := decide_eq_false (by omega)
        obtain rfl : k = bytesN v no := by omega
        have HO := Lib.hid hown
        clear hk hbn m
        go_wp2_with ((refine (SC _).mono ?_); rintro _ w1 ⟨rfl, rfl⟩)
        go_ret
        exact HE.out A c wr HO.out bel
end Go.Proofs.YtendnkklbeiegaaGreatDoor
namespace Go.Proofs.YtendnkklbeiegaaGreatDoor
open Go.RowKit

/-- Byte k of a text, as a number; 0 behind its end. -/
def bA (l : List UInt8) (k : Nat) : Int := if h : k < l.length then (l[k].toNat : Int) else 0
theorem get_bA (l : List UInt8) : ∀ (n : Nat) (h : n < (bstr l).size), (((bstr l)[n]'h).toNat : Int) = bA l n := fun n h => by
  have h' : n < l.length := h
  unfold bA
  rw [dif_pos h']
  rfl
set_option maxHeartbeats 800000 in
theorem hobj_calls (l : List UInt8) (h1 : 1 ≤ l.length) (h2 : l.length ≤ 200) (h0 : bA l 0 = 47) (hc : ∀ k, k < l.length → 33 ≤ bA l k ∧ bA l k ≤ 126) (w : World) :
    Calls Tryz.prog 105 #[.string (bstr l)] w fun e w' => e = .returned (.bool true) ∧ w = w' := by
  have hb := get_bA l
  have hs : (bstr l).size = l.length := rfl
  have d1 : decide ((l.length : Int) < 1) = false := decide_eq_false (by omega)
  have d2 : decide (200 < (l.length : Int)) = false := decide_eq_false (by omega)
  have d1n : decide (l.length < 1) = false := decide_eq_false (by omega)
  have d2n : decide (200 < l.length) = false := decide_eq_false (by omega)
  have p0 : 0 < l.length := h1
  have HC := Lib.hid hc
  clear hc
  go_enter Tryz.func105, Tryz.ntmps105
  go_wp2
  go_loop [19] (fun i => ∃ k : Nat, k ≤ l.length ∧ i = .int .i64 k) (fun i => l.length - (intOf i).toNat)
  case atStart => exact ⟨0, by omega, rfl⟩
  case round =>
    obtain ⟨k, hk, rfl⟩ := hrel
    by_cases hlt : k < l.length
    · have hdec : decide ((k : Int) < (l.length : Int)) = true := decide_eq_true (by omega)
      have hdec' : decide (k < l.length) = true := decide_eq_true hlt
      have c1 : decide (bA l k < 33) = false := decide_eq_false (by have := HC.out k hlt; omega)
      have c2 : decide (126 < bA l k) = false := decide_eq_false (by have := HC.out k hlt; omega)
      clear h0
      go_wp2
      go_round
      case rel => exact ⟨k + 1, by omega, by go_num⟩
      case measure => simp [intOf]; omega
    · obtain rfl : k = l.length := by omega
      clear h0
      go_wp2
      go_ret
      exact ⟨rfl, rfl⟩
set_option maxHeartbeats 800000 in
theorem tright_calls (l : List UInt8) (u : Bool) (h1 : 1 ≤ l.length) (h2 : l.length ≤ 100) (hc : ∀ k, k < l.length → 33 ≤ bA l k ∧ bA l k ≤ 126 ∧ bA l k ≠ 34) (w : World) :
    Calls Tryz.prog 146 #[.agg #[.string (bstr l), .bool u]] w fun e w' => e = .returned (.bool true) ∧ Below w.heap.size w w' := by
  have hb := get_bA l
  have hs : (bstr l).size = l.length := rfl
  have d1 : decide ((l.length : Int) < 1) = false := decide_eq_false (by omega)
  have d2 : decide (100 < (l.length : Int)) = false := decide_eq_false (by omega)
  have d1n : decide (l.length < 1) = false := decide_eq_false (by omega)
  have d2n : decide (100 < l.length) = false := decide_eq_false (by omega)
  have xb := Blk.new w 151 #[.string (bstr l), .bool u]
  have B1 : Below w.heap.size w (w.alloc (.cells #[.string (bstr l), .bool u] 151)) := (Below.refl _ _).alloc (Nat.le_refl _) _
  have HC := Lib.hid hc
  clear hc
  go_enter Tryz.func146, Tryz.ntmps146
  go_wp2
  generalize w.alloc (.cells #[.string (bstr l), .bool u] 151) = w1 at *
  have g0 : w1.cell? ⟨w.heap.size, 0, none⟩ = some (.string (bstr l)) := xb.at_ rfl
  clear xb
  go_loop [18] (fun i => ∃ k : Nat, k ≤ l.length ∧ i = .int .i64 k) (fun i => l.length - (intOf i).toNat)
  case atStart => exact ⟨0, by omega, rfl⟩
  case round =>
    obtain ⟨k, hk, rfl⟩ := hrel
    by_cases hlt : k < l.length
    · have hdec : decide ((k : Int) < (l.length : Int)) = true := decide_eq_true (by omega)
      have hdec' : decide (k < l.length) = true := decide_eq_true hlt
      have c1 : decide (bA l k < 33) = false := decide_eq_false (by have := HC.out k hlt; omega)
      have c2 : decide (126 < bA l k) = false := decide_eq_false (by have := HC.out k hlt; omega)
      have c3 : (bA l k == 34) = false := by have := HC.out k hlt; simp; omega
      go_wp2
      go_round
      case rel => exact ⟨k + 1, by omega, by go_num⟩
      case measure => simp [intOf]; omega
    · obtain rfl : k = l.length := by omega
      go_wp2
      go_ret
      exact ⟨rfl, B1⟩
/-- The tag of a note. -/
abbrev vT : List UInt8 := [118]
theorem vright_calls (w : World) : Calls Tryz.prog 146 #[.agg #[.string (bstr vT), .bool false]] w fun e w' => e = .returned (.bool true) ∧ Below w.heap.size w w' :=
  tright_calls vT false (by decide) (by decide) (fun k hk => by
    obtain rfl : k = 0 := by simp at hk; omega
    decide) w
theorem vtext_calls (w : World) : Calls Tryz.prog 109 #[.agg #[.string (bstr vT), .bool false]] w fun e w' => e = .returned (.string (bstr [34, 118, 34])) ∧ Below w.heap.size w w' := by
  have xb := Blk.new w 151 #[.string (bstr vT), .bool false]
  have B1 : Below w.heap.size w (w.alloc (.cells #[.string (bstr vT), .bool false] 151)) := (Below.refl _ _).alloc (Nat.le_refl _) _
  have RC := vright_calls (w.alloc (.cells #[.string (bstr vT), .bool false] 151))
  have hl : (bstr vT).size = 1 := rfl
  have e1 : (⟨#[34]⟩ : ByteArray) ++ bstr vT ++ ⟨#[34]⟩ = bstr [34, 118, 34] := rfl
  go_enter Tryz.func109, Tryz.ntmps109
  go_wp2_with fail
  refine RC.mono ?_
  clear RC
  rintro e w2 ⟨rfl, B2⟩
  have xb2 := xb.below B2 xb.lt
  have B3 := B1.trans (B2.mono B1.size)
  have g0 := xb2.at_ (i := 0) rfl
  have g1 := xb2.at_ (i := 1) rfl
  clear xb xb2 B1 B2
  go_wp2
  go_ret
  exact ⟨rfl, B3⟩
/-- What is known of a note's version. -/
def metaC (n : Int) : Array Value := #[.string (bstr vT), .bool false, .int .i64 (-1), .int .i64 n, .int .i64 n, .int .i64 5, .int .i64 0, .int .i64 0, .slice none 0 0, .string ⟨#[]⟩, .bool true]
theorem joins_calls (n : Int) (w : World) : Calls Tryz.prog 107 #[.agg (metaC n)] w fun e w' => e = .returned (.bool true) ∧ Below w.heap.size w w' := by
  have xb := Blk.new w 153 (metaC n)
  have B1 : Below w.heap.size w (w.alloc (.cells (metaC n) 153)) := (Below.refl _ _).alloc (Nat.le_refl _) _
  have RC := vright_calls (w.alloc (.cells (metaC n) 153))
  have hx : ∀ (w' : World), Below (w.alloc (.cells (metaC n) 153)).heap.size (w.alloc (.cells (metaC n) 153)) w' → w'.cell? ⟨w.heap.size, 1, none⟩ = some (.bool false) := fun w' b => (xb.below b xb.lt).at_ (i := 1) rfl
  unfold metaC at *
  go_enter Tryz.func107, Tryz.ntmps107
  go_wp2_with fail
  refine RC.mono ?_
  clear RC
  rintro e w2 ⟨rfl, B2⟩
  have g1 := hx w2 B2
  have B3 := B1.trans (B2.mono B1.size)
  clear xb hx B1 B2
  go_wp2
  go_ret
  exact ⟨rfl, B3⟩
theorem tenant_calls (w : World) : Calls Tryz.prog 148 #[.string ⟨#[]⟩] w fun e w' => e = .returned (.bool true) ∧ w = w' := by
  have e0 : (⟨#[]⟩ : ByteArray).size = 0 := rfl
  go_enter Tryz.func148, Tryz.ntmps148
  go_wp2
  go_loop [15] (fun i => i = .int .i64 0) (fun _ => 0)
  case atStart => rfl
  case round =>
    subst hrel
    go_wp2
    go_ret
    exact ⟨rfl, rfl⟩
theorem ticks_calls (m : Int) (h0 : 0 ≤ m) (h1 : m ≤ 1099511627776) (w : World) : Calls Tryz.prog 147 #[.int .i64 m] w fun e w' => e = .returned (.bool true) ∧ w = w' := by
  have d1 : decide (0 ≤ m) = true := decide_eq_true h0
  have d2 : decide (m ≤ 1099511627776) = true := decide_eq_true h1
  go_enter Tryz.func147, Tryz.ntmps147
  go_wp2
  go_ret
  exact ⟨rfl, rfl⟩
theorem enum_calls (m : Int) (h0 : 0 ≤ m) (h1 : m ≤ 1099511627776) (w : World) : Calls Tryz.prog 108 #[.int .i64 m] w fun e w' => e = .returned (.bool true) ∧ w = w' := by
  have d1 : decide (0 ≤ m) = true := decide_eq_true h0
  have d2 : decide (m ≤ 1099511627776) = true := decide_eq_true h1
  go_enter Tryz.func108, Tryz.ntmps108
  go_wp2
  go_ret
  exact ⟨rfl, rfl⟩
set_option maxHeartbeats 1600000 in
theorem mright_calls (n : Int) (h0 : 0 ≤ n) (h1 : n ≤ 1000) (w : World) : Calls Tryz.prog 106 #[.agg (metaC n)] w fun e w' => e = .returned (.bool true) ∧ Below w.heap.size w w' := by
  have xb := Blk.new w 153 (metaC n)
  have B1 : Below w.heap.size w (w.alloc (.cells (metaC n) 153)) := (Below.refl _ _).alloc (Nat.le_refl _) _
  have RC := vright_calls (w.alloc (.cells (metaC n) 153))
  have TC := fun w' => tenant_calls w'
  have d1 : decide (n < -1) = false := decide_eq_false (by omega)
  have d2 : decide (1099511627776 < n) = false := decide_eq_false (by omega)
  have d3 : decide (n < 0) = false := decide_eq_false (by omega)
  have d4 : (n == -1) = false := by simp; omega
  have d5 : (bstr vT).size = 1 := rfl
  have d6 : (bstr vT).toList = [118] := by rw [ByteArray.toList_eq]; rfl
  unfold metaC at *
  go_enter Tryz.func106, Tryz.ntmps106
  go_wp2_with fail
  refine RC.mono ?_
  clear RC
  rintro e w2 ⟨rfl, B2⟩
  have B3 := B1.trans (B2.mono B1.size)
  have xb2 := xb.below B2 xb.lt
  have g2 := xb2.at_ (i := 2) rfl
  have g3 := xb2.at_ (i := 3) rfl
  have g4 := xb2.at_ (i := 4) rfl
  have g5 := xb2.at_ (i := 5) rfl
  have g6 := xb2.at_ (i := 6) rfl
  have g7 := xb2.at_ (i := 7) rfl
  have g8 := xb2.at_ (i := 8) rfl
  have g9 := xb2.at_ (i := 9) rfl
  clear xb xb2 B1 B2
  go_wp2_with (first | (go_at_call 147; (with_reducible refine (ticks_calls _ (by decide) (by decide) _).mono ?_); rintro e w3 ⟨rfl, rfl⟩) | (go_at_call 148; (with_reducible refine (TC _).mono ?_); rintro e w3 ⟨rfl, rfl⟩))
  go_loop [84] (fun i => i = .int .i64 0) (fun _ => 0)
  case atStart => rfl
  case round =>
    subst hrel
    go_wp2
    go_ret
    exact ⟨rfl, B3⟩
end Go.Proofs.YtendnkklbeiegaaGreatDoor
