/-
  The walk of package disk's Read.
-/
import Derived.Test.YtfdecpmdicnfbaaDoorDiskWalkB
namespace Go.Proofs.YtfdecpmdicnfbaaDoor
open Go.RowKit DiskP

/-- It gives the bytes of a sector, or why there are none; the bytes are the caller's own. -/
def RetRead (w : World) (y : Lay) (n : Int) (e : Ending) (w' : World) : Prop :=
  ∃ v, e = .returned (.tuple #[v, .int .i64 (y.abs.readE n)]) ∧ w'.ownsRow w.heap.size 5 1 v (y.abs.readL n).length (cB (y.abs.readL n)) ∧ Below w.heap.size w w'
theorem hasB_abs (y : Lay) (n : Int) : y.abs.has n = hasB y n := by simp [Dsk.has, hasB, Lay.abs]
theorem RetRead.no {w w' : World} {y : Lay} {n : Int} {e : Ending} (k : Int) (hk : k ≠ 0) (he : e = .returned (.tuple #[.slice none 0 0, .int .i64 k])) (hr : y.abs.readE n = k) (hb : Below w.heap.size w w') : RetRead w y n e w' := by
  have hl : y.abs.readL n = [] := by unfold DiskP.Dsk.readL; rw [hr, if_neg hk]
  exact ⟨.slice none 0 0, by rw [hr]; exact he, by rw [hl]; exact World.ownsRow_nil _ _ _ _, hb⟩
theorem neq_ptr_nil (w : World) : (binOp .neq 84 (.pointer none) (.pointer none)).run Tryd.prog w = .ok (.bool false) w := by kernel_rfl

theorem RetRead.ok {w w' : World} {y : Lay} {n : Int} {e : Ending} (v : Value) (l : List UInt8) (k : Nat) (hl : l.length = k) (he : e = .returned (.tuple #[v, .int .i64 0])) (hr : y.abs.readE n = 0) (hb2 : y.abs.readB n.toNat = l)
    (hown : w'.ownsRow w.heap.size 5 1 v k (cB l)) (hb : Below w.heap.size w w') : RetRead w y n e w' := by
  have hl2 : y.abs.readL n = l := by unfold DiskP.Dsk.readL; rw [hr, if_pos rfl, hb2]
  exact ⟨v, by rw [hr]; exact he, by rw [hl2, hl]; exact hown, hb⟩
theorem read_on (y : Lay) (n : Int) (w : World) (base : Nat) (h : DiskOK w base y) (hh : hasB y n = true) (ho : y.off = false) :
    Calls Tryd.prog 31 #[.pointer (some ⟨y.D, 0, none⟩), .int .i64 n] w (RetRead w y n) := by
  obtain ⟨hn0, hn1⟩ : 0 ≤ n ∧ n < y.lp.length := by simpa [hasB] using hh
  obtain ⟨n, rfl⟩ := Int.eq_ofNat_of_zero_le hn0
  have hn : n < y.lp.length := by omega
  have h1 := hasB_abs y (n : Int)
  have c4 := h.c4
  rw [ho] at c4
  have c0 := h.c0
  have c2 := h.c2
  have hs1 := h.s1
  have hs2 := h.s2
  have hmk := run_make_n el_u8 rfl y.size (by omega) (by omega)
  have htp : y.tp[n]? = some (y.tp[n]'(by rw [tp_len]; exact hn)) := List.getElem?_eq_getElem (by rw [tp_len]; exact hn)
  generalize hp : y.tp[n]'(by rw [tp_len]; exact hn) = p at htp
  clear hp
  have ct : w.cell? ⟨y.T, n, none⟩ = some (ptrV p) := h.tk.at_ (by simp [htp])
  have habs : y.abs.told[n]? = some (ptrS y.size y.sect p) := by rw [abs_told]; simp [htp]
  have HE : Hid (y.abs.readE (n : Int) = if (ptrS y.size y.sect p).bytes.isNone then 9 else 0) := by
    show _ = _
    unfold Dsk.readE
    rw [h1, hh, if_neg (by decide)]
    have : y.abs.off = false := ho
    rw [this, if_neg (by decide), Int.toNat_natCast, habs]
  have HB : Hid (y.abs.readB n = ((ptrS y.size y.sect p).bytes).getD []) := by
    show _ = _
    unfold Dsk.readB; rw [habs]; rfl
  clear h1 habs hn0 hn1
  cases p with
  | none =>
    have ct' : w.cell? ⟨y.T, n, none⟩ = some (.pointer none) := ct
    clear ct htp
    go_enter Tryd.func31, Tryd.ntmps31
    go_wp2_with fail
    refine (has_calls y n w base h).mono ?_
    rintro e w' ⟨rfl, rfl⟩
    rw [hh]
    have ct2 : ∀ o, (w.alloc o).cell? ⟨y.T, n, none⟩ = some (.pointer none) := fun o => (World.cell?_alloc_lt w o ⟨y.T, n, none⟩ h.tk.lt).trans ct'
    have cd2 : ∀ o, (w.alloc o).cell? ⟨y.D, 2, none⟩ = some (.slice (some ⟨y.T, 0, none⟩) y.lp.length y.lp.length) := fun o => (World.cell?_alloc_lt w o ⟨y.D, 2, none⟩ h.dk.lt).trans c2
    go_wp2
    go_ret2
    refine RetRead.ok _ (List.replicate y.size 0) y.size (by simp) rfl HE.out (by rw [Int.toNat_natCast, HB.out]; rfl) ?_ ((Below.refl _ _).alloc (Nat.le_refl _) _)
    have := own_made w (base := w.heap.size) 5 y.size (.int .u8 0) (Nat.le_refl _) (by unfold maxLen; omega)
    rw [show cB (List.replicate y.size 0) = List.replicate y.size (.int .u8 0) by simp [cB, byteV]]
    exact this
  | some c =>
    have hc : y.ids c := tp_ids y (List.mem_of_getElem? htp)
    have ct' : w.cell? ⟨y.T, n, none⟩ = some (.pointer (some ⟨c, 0, none⟩)) := ct
    have ck := h.ck c hc
    have bk := h.bk c hc
    have hcl := ck.lt
    have ct2 : ∀ o, (w.alloc o).cell? ⟨y.T, n, none⟩ = some (.pointer (some ⟨c, 0, none⟩)) := fun o => (World.cell?_alloc_lt w o ⟨y.T, n, none⟩ h.tk.lt).trans ct'
    have cd2 : ∀ o, (w.alloc o).cell? ⟨y.D, 2, none⟩ = some (.slice (some ⟨y.T, 0, none⟩) y.lp.length y.lp.length) := fun o => (World.cell?_alloc_lt w o ⟨y.D, 2, none⟩ h.dk.lt).trans c2
    have k0 : ∀ o, (w.alloc o).cell? ⟨c, 0, none⟩ = some (y.bv c) := fun o => (World.cell?_alloc_lt w o ⟨c, 0, none⟩ hcl).trans (ck.at_ rfl)
    have k1 : ∀ o, (w.alloc o).cell? ⟨c, 1, none⟩ = some (.bool (y.sect c).bytes.isNone) := fun o => (World.cell?_alloc_lt w o ⟨c, 1, none⟩ hcl).trans (ck.at_ rfl)
    clear ct htp ck
    cases hs : (y.sect c).bytes with
    | none =>
      rw [hs] at k1
      have HE' : Hid (y.abs.readE (n : Int) = 9) := by have := HE.out; simp only [ptrS, hs] at this; exact this
      clear HE HB bk hs k0
      go_enter Tryd.func31, Tryd.ntmps31
      go_wp2_with fail
      refine (has_calls y n w base h).mono ?_
      rintro e w' ⟨rfl, rfl⟩
      rw [hh]
      have k1' : ∀ o, (w.alloc o).cell? ⟨c, 1, none⟩ = some (.bool true) := k1
      clear k1
      go_wp2
      go_ret2
      exact RetRead.no 9 (by decide) rfl HE'.out ((Below.refl _ _).alloc (Nat.le_refl _) _)
    | some l =>
      rw [hs] at k1 bk
      obtain ⟨hl, hown⟩ := bk
      have HE' : Hid (y.abs.readE (n : Int) = 0) := by have := HE.out; simp only [ptrS, hs] at this; exact this
      have HB' : Hid (y.abs.readB n = l) := by have := HB.out; simp only [ptrS, hs] at this; exact this
      clear HE HB hs
      obtain ⟨A, cp, hv, _, _⟩ := own_form hown
      rw [hv] at hown k0
      have hR : RB w A l := RV.of_own hown
      have k1' : ∀ o, (w.alloc o).cell? ⟨c, 1, none⟩ = some (.bool false) := k1
      have Hl := Lib.hid hl
      clear k1 hown hl
      go_enter Tryd.func31, Tryd.ntmps31
      go_wp2_with fail
      refine (has_calls y n w base h).mono ?_
      rintro e w' ⟨rfl, rfl⟩
      rw [hh]
      go_wp2_with ((with_reducible show wpList _ _ _ (⟨some 41, _, _, _, _, _⟩ :: _) _ _); refine wpList_copy_splice rfl (.tmp 36) (.tmp 40) 27 27 rfl 5 Tryd.underlying27 (by kernel_rfl) (some ⟨w.heap.size, 0, none⟩) A y.size y.size y.size cp rfl rfl w.heap.size 0 (List.replicate y.size (.int .u8 0)) 5 (Blk.new w 5 (rep y.size (.int .u8 0))) (cB l) ?e1 ?e2 ?e3 (cB_one l) w.heap.size w ((Below.refl _ _).alloc (Nat.le_refl _) _) (Nat.le_refl _) ?_)
      case e1 => rw [cB_len, Hl.out]; simp
      case e2 => exact rv_cells (hR.alloc _)
      case e3 => rw [cB_len, Hl.out]; simp
      intro w1 HW b1
      have own1 : w1.ownsRow w.heap.size 5 1 (.slice (some ⟨w.heap.size, 0, none⟩) y.size y.size) y.size (cB l) := by
        refine ⟨by rw [cB_len, Hl.out, Nat.mul_one], .inr ⟨_, _, _, rfl, Nat.le_refl _, HW.out, Nat.le_refl _, by unfold maxLen; omega, ?_, ?_⟩⟩
        · rw [splice_all _ _ (by rw [cB_len, Hl.out]; simp)]; simp [cB_len, Hl.out]
        · rw [splice_all _ _ (by rw [cB_len, Hl.out]; simp), Nat.mul_one]
          exact List.take_of_length_le (by rw [cB_len, Hl.out]; exact Nat.le_refl _)
      clear HW
      go_wp2
      go_ret2
      exact RetRead.ok _ l y.size Hl.out rfl HE'.out (by rw [Int.toNat_natCast]; exact HB'.out) own1 b1
theorem read_calls (y : Lay) (n : Int) (w : World) (base : Nat) (h : DiskOK w base y) :
    Calls Tryd.prog 31 #[.pointer (some ⟨y.D, 0, none⟩), .int .i64 n] w (RetRead w y n) := by
  have h1 := hasB_abs y n
  cases hh : hasB y n
  · have HR : Hid (y.abs.readE n = 1) := by show _ = _; unfold Dsk.readE; rw [h1, hh]; rfl
    clear h1
    go_enter Tryd.func31, Tryd.ntmps31
    go_wp2_with fail
    refine (has_calls y n w base h).mono ?_
    rintro e w' ⟨rfl, rfl⟩
    rw [hh]
    go_wp2
    go_ret2
    exact RetRead.no 1 (by decide) rfl HR.out (Below.refl _ _)
  · have c4 := h.c4
    cases ho : y.off
    · exact read_on y n w base h hh ho
    · have HR : Hid (y.abs.readE n = 10) := by
        show _ = _
        unfold Dsk.readE; rw [h1, hh]
        have : y.abs.off = true := ho
        rw [this]; rfl
      clear h1
      rw [ho] at c4
      go_enter Tryd.func31, Tryd.ntmps31
      go_wp2_with fail
      refine (has_calls y n w base h).mono ?_
      rintro e w' ⟨rfl, rfl⟩
      rw [hh]
      go_wp2
      go_ret2
      exact RetRead.no 10 (by decide) rfl HR.out (Below.refl _ _)
end Go.Proofs.YtfdecpmdicnfbaaDoor
