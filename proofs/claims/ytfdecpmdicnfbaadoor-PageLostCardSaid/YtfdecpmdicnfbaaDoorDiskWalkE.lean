/-
  The walk of package disk's Write, second part.
-/
import Derived.Test.YtfdecpmdicnfbaaDoorDiskWalkD
namespace Go.Proofs.YtfdecpmdicnfbaaDoor
open Go.RowKit DiskP

/-- It tells an error or none; the disk goes on. -/
def RetErr (w : World) (base : Nat) (y : Lay) (k : Int) (S : Dsk) (e : Ending) (w' : World) : Prop := e = .returned (.int .i64 k) ∧ Next w base y S w'
def DiskP.Dsk.writeS (d : Dsk) (n : Int) (l : List UInt8) : Dsk := if d.writeE n l = 0 then d.write n.toNat l else d

theorem write_no (y : Lay) (n : Int) (l : List UInt8) (A : Option Addr) (cap : Nat) (w : World) (base : Nat) (h : DiskOK w base y) (_hl : l.length ≤ 9223372036854775807) (hno : y.abs.writeE n l ≠ 0) :
    Calls Tryd.prog 30 #[.pointer (some ⟨y.D, 0, none⟩), .int .i64 n, .slice A l.length cap] w (RetErr w base y (y.abs.writeE n l) y.abs) := by
  have h1 := hasB_abs y n
  have c0 := h.c0
  cases hh : hasB y n
  · have HR : Hid (y.abs.writeE n l = 1) := by show _ = _; unfold Dsk.writeE; rw [h1, hh]; rfl
    clear h1
    go_enter Tryd.func30, Tryd.ntmps30
    go_wp2_with fail
    refine (has_calls y n w base h).mono ?_
    rintro e w' ⟨rfl, rfl⟩
    rw [hh]
    go_wp2
    go_ret
    exact ⟨by rw [HR.out]; rfl, Next.same h⟩
  · by_cases hz : l.length = y.size
    · have hoff : y.off = true := by
        cases ho : y.off
        · refine absurd ?_ hno
          unfold Dsk.writeE
          have : y.abs.off = false := ho
          have e2 : y.abs.size = y.size := rfl
          rw [h1, hh, e2, this]
          simp [hz]
        · rfl
      have HR : Hid (y.abs.writeE n l = 10) := by
        show _ = _
        unfold Dsk.writeE
        have : y.abs.off = true := hoff
        have e2 : y.abs.size = y.size := rfl
        rw [h1, hh, e2, this]
        simp [hz]
      clear h1
      have c4 := h.c4
      rw [hoff] at c4
      have hne : ((l.length : Int) != (y.size : Int)) = false := by simp [hz]
      have Hz := Lib.hid hz
      clear hz
      go_enter Tryd.func30, Tryd.ntmps30
      go_wp2_with fail
      refine (has_calls y n w base h).mono ?_
      rintro e w' ⟨rfl, rfl⟩
      rw [hh]
      go_wp2
      go_ret
      exact ⟨by rw [HR.out]; rfl, Next.same h⟩
    · have HR : Hid (y.abs.writeE n l = 1) := by
        show _ = _
        unfold Dsk.writeE
        have e2 : y.abs.size = y.size := rfl
        rw [h1, hh, e2]
        simp [hz]
      clear h1
      have hne : ((l.length : Int) != (y.size : Int)) = true := by simp; omega
      go_enter Tryd.func30, Tryd.ntmps30
      go_wp2_with fail
      refine (has_calls y n w base h).mono ?_
      rintro e w' ⟨rfl, rfl⟩
      rw [hh]
      go_wp2
      go_ret
      exact ⟨by rw [HR.out]; rfl, Next.same h⟩

theorem write_yes (y : Lay) (n : Nat) (l : List UInt8) (A : Option Addr) (cap : Nat) (w : World) (base : Nat) (h : DiskOK w base y) (hR : RB w A l)
    (hn : n < y.lp.length) (hl : l.length = y.size) (ho : y.off = false) (hw : y.wp.length ≤ 1000000000) :
    Calls Tryd.prog 30 #[.pointer (some ⟨y.D, 0, none⟩), .int .i64 (n : Int), .slice A y.size cap] w (RetErr w base y 0 (y.abs.write n l)) := by
  have hh : hasB y (n : Int) = true := by simp [hasB]; omega
  have c0 := h.c0
  have c4 := h.c4
  rw [ho] at c4
  have hs2 := h.s2
  have Hl := Lib.hid hl
  clear hl
  have hne : ((y.size : Int) != (y.size : Int)) = false := by simp
  go_enter Tryd.func30, Tryd.ntmps30
  go_wp2_with fail
  refine (has_calls y n w base h).mono ?_
  rintro e w' ⟨rfl, rfl⟩
  rw [hh]
  go_wp2_with ((with_reducible show wpList _ _ _ (⟨some 28, _, _, _, _, _⟩ :: _) _ _); refine wpList_append_rv el_u8 rfl (.const (.slice none 0 0)) (.tmp 27) rfl w.heap.size _ 0 [] rfl (World.ownsRow_nil _ _ _ _) A y.size cap (cB l) rfl ?e1 hR (cB_one _) ?e2 ?e3 ?e4 ?_)
  case e1 => rw [cB_len, Nat.mul_one, Hl.out]
  case e2 => unfold maxLen; omega
  case e3 => omega
  case e4 => exact Nat.le_refl _
  intro v1 w1 own1 gr1 _
  have b1 : Below w.heap.size w w1 := (Below.refl _ _).grown gr1 (Nat.le_refl _) (fun k hk => by cases hk)
  have h1 := h.below b1
  obtain ⟨A1, cp1, hv1, _, _⟩ := own_form own1
  subst hv1
  have c3 : ∀ o, (w1.alloc o).cell? ⟨y.D, 3, none⟩ = some y.wv := fun o => (World.cell?_alloc_lt w1 o ⟨y.D, 3, none⟩ h1.dk.lt).trans h1.c3
  clear gr1 c4 c0
  have rv2 : ∀ (o : Obj) (a b : Value), RV ((w1.alloc o).alloc (.cells #[a, b] 88)) (some ⟨w1.heap.size + 1, 0, none⟩) [a, b] := by
    intro o a b
    have := RV.new (w1.alloc o) [a, b] 88 (0, 0)
    simpa using this
  go_wp2_with ((with_reducible show wpList _ _ _ (⟨some 40, _, _, _, _, _⟩ :: _) _ _); refine wpList_append_rv el_wr rfl (.tmp 35) (.tmp 39) rfl base y.wv y.wp.length (wcells y.wp) rfl ((h1.wk.alloc _).alloc _) (some ⟨w1.heap.size + 1, 0, none⟩) 1 1 [.int .i64 (n : Int), .pointer (some ⟨w1.heap.size, 0, none⟩)] rfl rfl (rv2 _ _ _) ?f3 ?f4 ?f5 ?f6 ?_)
  case f3 => intro u hu; simp at hu; rcases hu with rfl | rfl <;> rfl
  case f4 => unfold maxLen; omega
  case f5 => omega
  case f6 => have := h1.bD; have := h1.dk.lt; simp; omega
  intro v2 w4 own4 gr4 hv2
  obtain ⟨A2, cp2, hv2f, _, _⟩ := own_form own4
  have hb3 : Below w.heap.size w ((w1.alloc (.cells #[.slice A1 y.size cp1, .bool false, .bool false] 86)).alloc (.cells #[.int .i64 (n : Int), .pointer (some ⟨w1.heap.size, 0, none⟩)] 88)) :=
    (b1.alloc b1.size _).alloc (Nat.le_trans b1.size (by simp)) _
  have hcb : Blk ((w1.alloc (.cells #[.slice A1 y.size cp1, .bool false, .bool false] 86)).alloc (.cells #[.int .i64 (n : Int), .pointer (some ⟨w1.heap.size, 0, none⟩)] 88)) w1.heap.size 86 #[.slice A1 y.size cp1, .bool false, .bool false] :=
    (Blk.new w1 _ _).alloc _
  have HN := Lib.hid (write_ok h hb3 hn Hl.out hcb b1.size ((own1.alloc _).alloc _) own4 gr4 (by simpa using hv2))
  have hD : Blk w4 y.D 81 y.dcells := by
    have h3 := h.below hb3
    exact (gr4.block y.D h3.dk.lt (fun e => own_ne h3.wk e.symm h3.dk (by decide) rfl)).trans h3.dk
  have hTb : Blk w4 y.T 84 (y.tp.map ptrV).toArray := by
    have h3 := h.below hb3
    exact (gr4.block y.T h3.tk.lt (fun e => own_ne h3.wk e.symm h3.tk (by decide) rfl)).trans h3.tk
  have d2 : w4.cell? ⟨y.D, 2, none⟩ = some (.slice (some ⟨y.T, 0, none⟩) y.lp.length y.lp.length) := hD.at_ rfl
  have d3 : w4.cell? ⟨y.D, 3, none⟩ = some y.wv := hD.at_ rfl
  have z3 := hD.frozen 3
  obtain ⟨pv, t1⟩ : ∃ pv, w4.cell? ⟨y.T, n, none⟩ = some pv := by
    have hlt : n < y.tp.length := by rw [tp_len]; exact hn
    exact ⟨ptrV y.tp[n], hTb.at_ (by simp [hlt])⟩
  have zt := hTb.frozen n
  have hDT : y.D ≠ y.T := blk_ne h.dk h.tk (by decide)
  subst hv2f
  clear own4 gr4 hv2 hD hTb hcb hb3 rv2 c3 own1 b1 h1
  go_wp2
  go_ret
  exact ⟨rfl, HN.out⟩

theorem write_calls (y : Lay) (n : Int) (l : List UInt8) (A : Option Addr) (cap : Nat) (w : World) (base : Nat) (h : DiskOK w base y) (hR : RB w A l) (hl : l.length ≤ 9223372036854775807) (hw : y.wp.length ≤ 1000000000) :
    Calls Tryd.prog 30 #[.pointer (some ⟨y.D, 0, none⟩), .int .i64 n, .slice A l.length cap] w (RetErr w base y (y.abs.writeE n l) (y.abs.writeS n l)) := by
  by_cases hno : y.abs.writeE n l = 0
  · have hS : y.abs.writeS n l = y.abs.write n.toNat l := if_pos hno
    rw [hS, hno]
    have h1 := hasB_abs y n
    have hsz : y.abs.size = y.size := rfl
    have hof : y.abs.off = y.off := rfl
    unfold Dsk.writeE at hno
    rw [h1, hsz, hof] at hno
    cases hh : hasB y n
    · rw [hh] at hno; simp at hno
    · rw [hh] at hno
      obtain ⟨hn0, hn1⟩ : 0 ≤ n ∧ n < y.lp.length := by simpa [hasB] using hh
      obtain ⟨n, rfl⟩ := Int.eq_ofNat_of_zero_le hn0
      have hlen : l.length = y.size := by
        rcases Classical.em (l.length = y.size) with h | h
        · exact h
        · simp [h] at hno
      have hoff : y.off = false := by
        cases ho : y.off
        · rfl
        · simp [ho, hlen] at hno
      rw [hlen, Int.toNat_natCast]
      exact write_yes y n l A cap w base h hR (by omega) hlen hoff hw
  · have hS : y.abs.writeS n l = y.abs := if_neg hno
    rw [hS]
    exact write_no y n l A cap w base h hl hno
end Go.Proofs.YtfdecpmdicnfbaaDoor
