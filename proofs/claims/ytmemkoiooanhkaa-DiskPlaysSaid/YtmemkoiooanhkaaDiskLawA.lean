/-
  The walks of the statements' filled and alive (the chapter's example).
-/
import Derived.Test.YtmemkoiooanhkaaDiskWalkG
namespace Go.Proofs.Ytmemkoiooanhkaa
open Go.RowKit DiskP

/-- It gives bytes of the caller's own back. -/
def RetOwn (w : World) (l : List UInt8) (e : Ending) (w' : World) : Prop :=
  ∃ g, e = .returned (.slice (some ⟨g, 0, none⟩) l.length l.length) ∧ w'.ownsRow w.heap.size 5 1 (.slice (some ⟨g, 0, none⟩) l.length l.length) l.length (cB l) ∧ Below w.heap.size w w'
theorem fill_step (n k : Nat) (b : UInt8) (h : k < n) : (cB (List.replicate k b ++ List.replicate (n - k) 0)).set k (.int .u8 (b.toNat : Int)) = cB (List.replicate (k + 1) b ++ List.replicate (n - (k + 1)) 0) := by
  have e : n - k = (n - (k + 1)) + 1 := by omega
  have : (List.replicate k b ++ List.replicate (n - k) 0).set k b = List.replicate (k + 1) b ++ List.replicate (n - (k + 1)) 0 := by
    rw [e, List.replicate_succ, List.set_append_right _ _ (by simp)]
    simp [List.replicate_succ']
  rw [← this]
  simp [cB, byteV]
theorem filled_calls (n : Nat) (b : UInt8) (w : World) (hn : n ≤ 1000000) :
    Calls Try.prog 13 #[.int .i64 (n : Int), .int .u8 (b.toNat : Int)] w (RetOwn w (List.replicate n b)) := by
  have hmk := run_make_n el_u8 rfl n (by omega) (by omega)
  go_enter Try.func13, Try.ntmps13
  go_wp2
  clear hmk
  go_loopw [6, 11] (fun _ i wr => ∃ k : Nat, k ≤ n ∧ i = .int .i64 k ∧ wr.ownsRow w.heap.size 5 1 (.slice (some ⟨w.heap.size, 0, none⟩) n n) n (cB (List.replicate k b ++ List.replicate (n - k) 0)) ∧ Below w.heap.size w wr) (fun _ i _ => n - (intOf i).toNat)
  case atStart =>
    refine ⟨0, by omega, rfl, ?_, (Below.refl _ _).alloc (Nat.le_refl _) _⟩
    have := own_made w (base := w.heap.size) 5 n (.int .u8 0) (Nat.le_refl _) (by unfold maxLen; omega)
    rw [show cB (List.replicate 0 b ++ List.replicate (n - 0) 0) = List.replicate n (.int .u8 0) by simp [cB, byteV]]
    exact this
  case round =>
    obtain ⟨k, hk, rfl, own, bel⟩ := hrel
    by_cases hlt : k < n
    · have hc : wr.cell? ⟨w.heap.size, k, none⟩ = some (.int .u8 0) := by
        rw [own.cellAt _ (by omega)]
        have : (List.replicate k b ++ List.replicate (n - k) 0)[k]? = some 0 := by
          rw [List.getElem?_append_right (by simp), List.length_replicate, Nat.sub_self, List.getElem?_replicate_of_lt (by omega)]
        unfold cB
        rw [List.getElem?_map, this]
        rfl
      have hf := own.frozenAt k
      have HO := (own.stored k (.int .u8 (b.toNat : Int))).1
      rw [show (cB (List.replicate k b ++ List.replicate (n - k) 0)).set k (.int .u8 (b.toNat : Int)) = cB (List.replicate (k + 1) b ++ List.replicate (n - (k + 1)) 0) from fill_step n k b hlt] at HO
      have Hown := Lib.hid HO
      clear HO
      go_wp2
      go_roundw
      case rel => exact ⟨k + 1, by omega, by go_num, Hown.out, bel.setCell (Nat.le_refl _) _⟩
      case measure => simp [intOf]; omega
    · obtain rfl : k = n := by omega
      have own' : wr.ownsRow w.heap.size 5 1 (.slice (some ⟨w.heap.size, 0, none⟩) k k) k (cB (List.replicate k b)) := by
        simpa using own
      have Hown := Lib.hid own'
      clear own own'
      go_wp2
      go_ret
      exact ⟨w.heap.size, by simp, by simpa using Hown.out, bel⟩

theorem write_at (y : Lay) (n : Int) (l : List UInt8) (len : Nat) (A : Option Addr) (cap : Nat) (w : World) (base : Nat) (h : DiskOK w base y) (hR : RB w A l) (hlen : l.length = len) (hl : len ≤ 9223372036854775807) (hw : y.wp.length ≤ 1000000000) :
    Calls Try.prog 12 #[.pointer (some ⟨y.D, 0, none⟩), .int .i64 n, .slice A len cap] w (RetErr w base y (y.abs.writeE n l) (y.abs.writeS n l)) := by
  subst hlen; exact write_calls y n l A cap w base h hR hl hw
def DiskP.Dsk.flushE (d : Dsk) : Int := if d.off then 10 else 0
def DiskP.Dsk.flushS (d : Dsk) : Dsk := if d.off then d else d.flush
theorem flush_calls (y : Lay) (w : World) (base : Nat) (h : DiskOK w base y) (hw : y.wp.length ≤ 1000000000) :
    Calls Try.prog 11 #[.pointer (some ⟨y.D, 0, none⟩)] w (RetErr w base y y.abs.flushE y.abs.flushS) := by
  cases ho : y.off
  · have e1 : y.abs.flushE = 0 := by unfold DiskP.Dsk.flushE; rw [show y.abs.off = false from ho]; rfl
    have e2 : y.abs.flushS = y.abs.flush := by unfold DiskP.Dsk.flushS; rw [show y.abs.off = false from ho]; rfl
    rw [e1, e2]
    exact flush_on y w base h ho hw
  · have e1 : y.abs.flushE = 10 := by unfold DiskP.Dsk.flushE; rw [show y.abs.off = true from ho]; rfl
    have e2 : y.abs.flushS = y.abs := by unfold DiskP.Dsk.flushS; rw [show y.abs.off = true from ho]; rfl
    rw [e1, e2]
    exact flush_off y w base h ho
theorem cut_calls (y : Lay) (keep : List Bool) (A : Option Addr) (cap : Nat) (torn : Int) (w : World) (base : Nat) (h : DiskOK w base y) (hw : y.wp.length ≤ 1000000000)
    (hkl : keep.length ≤ 9223372036854775807) (hR : RVF w y.foot A (cL keep)) :
    Calls Try.prog 14 #[.pointer (some ⟨y.D, 0, none⟩), .slice A keep.length cap, .int .i64 torn] w fun e w' => e = .returned (.tuple #[]) ∧ Next w base y (y.abs.cut keep torn) w' := by
  cases ho : y.off
  · exact cut_on y keep A cap torn w base h ho hw hkl hR
  · refine (cut_off y A keep.length cap torn w base h ho).mono fun e w' ⟨he, hw'⟩ => ⟨he, ?_⟩
    subst hw'
    have : y.abs.cut keep torn = y.abs := by unfold Dsk.cut; rw [show y.abs.off = true from ho]; rfl
    rw [this]
    exact Next.same h
theorem on_next (y : Lay) (w : World) (base : Nat) (h : DiskOK w base y) :
    Calls Try.prog 15 #[.pointer (some ⟨y.D, 0, none⟩)] w fun e w' => e = .returned (.tuple #[]) ∧ Next w base y y.abs.on w' :=
  (on_calls y w base h).mono fun _ _ ⟨he, h', k⟩ => ⟨he, _, h', rfl, rfl, k, fun _ hk => .inl hk⟩
theorem wlen (y : Lay) : y.wp.length = y.abs.wait.length := by simp [Lay.abs]

theorem alive_calls (w : World) : Calls Try.prog 9 #[] w fun e w' => e = .returned (.bool true) ∧ Below w.heap.size w w' := by
  go_enter Try.func9, Try.ntmps9
  go_wp2_with fail
  refine (new_calls 3 16 w (by omega) (by omega) (by omega) (by omega)).mono ?_
  rintro e w1 ⟨y1, rfl, h1, a1, l1, s1, b1⟩
  go_wp2_with fail
  refine (filled_calls 16 1 w1 (by omega)).mono ?_
  rintro e w2 ⟨g2, rfl, o2, b2⟩
  have h2 := h1.below b2
  go_wp2_with fail
  refine (write_at y1 1 (List.replicate 16 1) 16 _ _ w2 w.heap.size h2 (RV.of_own o2) (by simp) (by omega) (by rw [wlen, a1]; simp [newD])).mono ?_
  rintro e w3 ⟨rfl, y3, h3, a3, d3, k3, _⟩
  rw [a1] at a3
  rw [show y1.abs.writeE 1 (List.replicate 16 1) = 0 by rw [a1]; rfl, ← d3]
  have b3 : Below w.heap.size w w3 := (b1.trans (b2.mono b1.size)).trans (k3.below (fun k _ hk => (h1.foot_lt hk).1) (Nat.le_trans b1.size b2.size))
  clear d3 h1 h2 a1 l1 s1 b1 b2 o2 k3
  go_wp2_with fail
  refine (flush_calls y3 w3 w.heap.size h3 (by rw [wlen, a3]; decide)).mono ?_
  rintro e w4 ⟨rfl, y4, h4, a4, d4, k4, _⟩
  rw [a3] at a4
  rw [show y3.abs.flushE = 0 by rw [a3]; rfl, ← d4]
  have b4 := b3.trans (k4.below (fun k _ hk => (h3.foot_lt hk).1) b3.size)
  clear d4 h3 a3 b3 k4
  go_wp2_with fail
  refine (filled_calls 16 2 w4 (by omega)).mono ?_
  rintro e w5 ⟨g5, rfl, o5, b5⟩
  have h5 := h4.below b5
  go_wp2_with fail
  refine (write_at y4 1 (List.replicate 16 2) 16 _ _ w5 w.heap.size h5 (RV.of_own o5) (by simp) (by omega) (by rw [wlen, a4]; decide)).mono ?_
  rintro e w6 ⟨rfl, y6, h6, a6, d6, k6, _⟩
  rw [a4] at a6
  rw [show y4.abs.writeE 1 (List.replicate 16 2) = 0 by rw [a4]; rfl, ← d6]
  have b6 := (b4.trans (b5.mono b4.size)).trans (k6.below (fun k _ hk => (h4.foot_lt hk).1) (Nat.le_trans b4.size b5.size))
  clear d6 h4 h5 a4 b4 b5 o5 k6
  go_wp2_with fail
  refine (waits_calls y6 w6 w.heap.size h6).mono ?_
  rintro e w' ⟨rfl, rfl⟩
  rw [show y6.wp.length = 1 by rw [wlen, a6]; rfl, show ((1 : Nat) : Int) = 1 from rfl]
  go_wp2_with fail
  refine (cut_calls y6 [] none 0 (-1) w6 w.heap.size h6 (by rw [wlen, a6]; decide) (by simp) RVF.nil).mono ?_
  rintro e w7 ⟨rfl, y7, h7, a7, d7, k7, _⟩
  rw [a6] at a7
  rw [← d7]
  have b7 := b6.trans (k7.below (fun k _ hk => (h6.foot_lt hk).1) b6.size)
  clear d7 h6 a6 b6 k7
  go_wp2_with fail
  refine (read_calls y7 1 w7 w.heap.size h7).mono ?_
  rintro e w8 ⟨v8, rfl, _, b8⟩
  rw [show y7.abs.readE 1 = 10 by rw [a7]; rfl]
  have h8 := h7.below b8
  have b8' := b7.trans (b8.mono b7.size)
  clear h7 b7 b8
  go_wp2_with fail
  refine (on_next y7 w8 w.heap.size h8).mono ?_
  rintro e w9 ⟨rfl, y9, h9, a9, d9, k9, _⟩
  rw [a7] at a9
  rw [← d9]
  have b9 := b8'.trans (k9.below (fun k _ hk => (h8.foot_lt hk).1) b8'.size)
  clear d9 h8 a7 b8' k9
  go_wp2_with fail
  refine (read_calls y9 1 w9 w.heap.size h9).mono ?_
  rintro e w10 ⟨v10, rfl, o10, b10⟩
  have e10 : y9.abs.readL 1 = List.replicate 16 1 := by rw [a9]; decide
  rw [e10] at o10
  rw [show y9.abs.readE 1 = 0 by rw [a9]; rfl]
  obtain ⟨A, c, hv, _, _⟩ := own_form o10
  have hR : RB w10 A (List.replicate 16 1) := by rw [hv] at o10; exact RV.of_own o10
  obtain ⟨bb, off, rfl, _, hc⟩ := hR.at_ (k := 0) (by simp)
  have hc' : w10.cell? ⟨bb, off, none⟩ = some (.int .u8 1) := by simpa using hc
  rw [hv]
  rw [show (List.replicate 16 (1 : UInt8)).length = 16 by simp]
  have b11 := b9.trans (b10.mono b9.size)
  clear hv hc o10 e10 a9 h9 b9 b10 hR
  go_wp2
  go_ret
  exact ⟨rfl, b11⟩
end Go.Proofs.Ytmemkoiooanhkaa
