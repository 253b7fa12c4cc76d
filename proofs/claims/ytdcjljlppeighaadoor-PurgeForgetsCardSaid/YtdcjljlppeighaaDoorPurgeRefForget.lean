/-
  The walk of the document's Forget.
-/
import Derived.Test.YtdcjljlppeighaaDoorPurgeRefAdd
namespace Go.Proofs.YtdcjljlppeighaaDoor
open Go.RowKit PurgeP

theorem addr_add (b off j : Nat) : (⟨b, off, none⟩ : Addr).add j = ⟨b, off + j, none⟩ := by unfold Addr.add; split <;> simp_all
theorem rlines_tail (b off n c k : Nat) (hk : k ≤ n) (hn : n ≤ c) : ∃ A, (∀ w : World, (Instr.slice 26 (.slice (some ⟨b, off, none⟩) n c) (some (.int .i64 (k : Int))) none none).run Tryd.prog w = .ok (.slice A (n - k) (c - k)) w) ∧ (k < n → A = some ⟨b, off + k * 3, none⟩) := by
  have hu := Tryd.underlying26
  have he : Tryd.prog.elem 26 = 51 := by kernel_rfl
  have hz : ∀ w : World, (sizeOf 51).run Tryd.prog w = .ok 3 w := fun w => by kernel_rfl
  refine ⟨if c - k = 0 then some ⟨b, off, none⟩ else some ((⟨b, off, none⟩ : Addr).add (k * 3)), fun w => ?_, fun h => ?_⟩
  · have := run_slice_l (P := Tryd.prog) (w := w) 26 (some ⟨b, off, none⟩) n c (by rw [he]; exact hu) .i64 (k : Int) (by omega) (by omega)
    rw [this, he, hz]
    simp only [Result.andThen_ok, sliced, Int.toNat_natCast]
    by_cases hkc : c - k = 0
    · rw [if_pos hkc, if_pos (by omega)]
    · rw [if_neg hkc, if_neg (by omega)]; rfl
  · rw [if_neg (by omega), addr_add]
/-- What Forget tells. -/
def RetRF (w : World) (F : Nat → Prop) (z : RefR) (k : Int) (S : PLog) (e : Ending) (w' : World) : Prop := e = .returned (.int .i64 k) ∧ NextR w F z S w'
theorem RefOK.cut {w w4 : World} {F : Nat → Prop} {z : RefR} (h : RefOK w F z) (b4 : Below w.heap.size w w4) {A : Option Addr} {upTo : Int} {k : Nat} (hk : z.floor + (k : Int) = upTo) (h0 : 1 ≤ k) (hkn : k ≤ z.ls.length) {b off : Nat} (hz : z.A = some ⟨b, off, none⟩) (hA : k < z.ls.length → A = some ⟨b, off + k * 3, none⟩) :
    NextR w F z (z.abs.forS upTo) ((w4.setCell ⟨z.M, 0, none⟩ (.slice A (z.ls.length - k) (z.cap - k))).setCell ⟨z.M, 1, none⟩ (.int .i64 upTo)) := by
  have h4 := h.below b4
  have K7 : Kept (fun k => k = z.M) w4 ((w4.setCell ⟨z.M, 0, none⟩ (.slice A (z.ls.length - k) (z.cap - k))).setCell ⟨z.M, 1, none⟩ (.int .i64 upTo)) := ((Kept.refl (fun k => k = z.M) w4).setCell (p := ⟨z.M, 0, none⟩) (.inl rfl) _).setCell (p := ⟨z.M, 1, none⟩) (.inl rfl) _
  have hfl : z.abs.floor = z.floor := rfl
  have hlen : z.abs.ls.length = z.ls.length := RefR.abs_len
  have habs : RefR.abs ⟨z.M, A, z.cap - k, upTo, z.ls.drop k⟩ = z.abs.forS upTo := by
    have hf0 := h.ok.f0
    unfold PLog.forS
    rw [if_neg (by unfold PLog.now; rw [hlen]; omega), if_pos (by omega), hfl, show (upTo - z.floor).toNat = k by omega]
    simp [RefR.abs]
  have hll : (z.ls.drop k).length = z.ls.length - k := by simp
  refine ⟨⟨z.M, A, z.cap - k, upTo, z.ls.drop k⟩, ⟨?_, ?_, ?_, ?_, fun x hx => (h4.ks x (List.mem_of_mem_drop hx)).kept K7 (fun _ hk => .inl hk), h.fM, by rw [habs]; exact h.ok.forget _⟩, habs, rfl, (Kept.of_below b4 _).trans K7⟩
  · have := (h4.bk.set_ 0 (.slice A (z.ls.length - k) (z.cap - k))).set_ 1 (.int .i64 upTo)
    show Blk _ _ _ #[.slice A (z.ls.drop k).length (z.cap - k), .int .i64 upTo]
    rw [hll]
    exact this
  · show (z.ls.drop k).length ≤ z.cap - k
    have := h.le
    omega
  · show z.cap - k ≤ _
    have := h.c63
    omega
  · have R4 : RVF w4 (fun k => k = z.M ∨ F k) A (lC (z.ls.drop k)) := by
      intro hne
      have hlt : k < z.ls.length := by
        rcases Nat.lt_or_ge k z.ls.length with h1 | h1
        · exact h1
        · rw [List.drop_eq_nil_of_le h1] at hne; exact absurd rfl hne
      obtain ⟨b', off', e, h1, h2, h3⟩ := h4.rd (by intro e; have := congrArg List.length e; rw [lC_len, List.length_nil] at this; omega)
      rw [hz] at e
      injection e with e
      injection e with e1 e2
      subst e1 e2
      refine ⟨b, off + k * 3, hA hlt, h1, h2, fun j v hj => ?_⟩
      rw [← lC_drop, List.getElem?_drop] at hj
      rw [Nat.add_assoc]
      exact h3 _ _ hj
    exact R4.kept (K7.mono fun _ _ hk => .inl hk)
set_option maxHeartbeats 1600000 in
theorem rforget_calls (z : RefR) (upTo : Int) (w : World) (F : Nat → Prop) (h : RefOK w F z) :
    Calls Tryd.prog 38 #[.pointer (some ⟨z.M, 0, none⟩), .int .i64 upTo] w (RetRF w F z (z.abs.forE upTo) (z.abs.forS upTo)) := by
  have NC := rnow_calls z w F h
  have hfl : z.abs.floor = z.floor := rfl
  have hlen : z.abs.ls.length = z.ls.length := RefR.abs_len
  have hnow : z.abs.now = z.floor + (z.ls.length : Int) := by unfold PLog.now; rw [hlen]; rfl
  have hnl := h.ok.now_le
  have hf0 := h.ok.f0
  rw [hfl] at hf0 hnl
  by_cases h0 : upTo < 0 ∨ z.abs.now < upTo
  · have HE : Hid (∀ w', Below w.heap.size w w' → RetRF w F z (z.abs.forE upTo) (z.abs.forS upTo) (.returned (.int .i64 1)) w') := fun w' hb => by
      unfold PLog.forE PLog.forS
      rw [if_pos h0, if_pos h0]
      exact ⟨rfl, NextR.same_below h hb⟩
    by_cases h1 : upTo < 0
    · have d0 : decide (upTo < 0) = true := decide_eq_true h1
      clear h NC h0 hnow hnl
      go_enter Tryd.func38, Tryd.ntmps38
      go_wp2
      go_ret
      exact HE.out _ (Below.refl _ _)
    · have d0 : decide (upTo < 0) = false := decide_eq_false h1
      have d1 : decide (z.abs.now < upTo) = true := decide_eq_true (by omega)
      generalize z.abs.now = N at *
      clear h h0 hnow hnl
      go_enter Tryd.func38, Tryd.ntmps38
      go_wp2_with fail
      refine NC.mono ?_
      clear NC
      rintro e w1 ⟨rfl, q, rfl⟩
      go_wp2
      go_ret
      exact HE.out _ (drewN_below w q)
  · have d0 : decide (upTo < 0) = false := decide_eq_false (by omega)
    have d1 : decide (z.abs.now < upTo) = false := decide_eq_false (by omega)
    by_cases h2 : z.floor < upTo
    · have d2 : decide (z.floor < upTo) = true := decide_eq_true h2
      obtain ⟨k, hk⟩ : ∃ k : Nat, z.floor + (k : Int) = upTo := ⟨(upTo - z.floor).toNat, by omega⟩
      have hk1 : 1 ≤ k := by omega
      have hkn : k ≤ z.ls.length := by omega
      obtain ⟨b, off, hzA, hb, -⟩ := h.rd (by intro e; have := congrArg List.length e; rw [lC_len, List.length_nil] at this; omega)
      obtain ⟨A, hsl, hA⟩ := rlines_tail b off z.ls.length z.cap k hkn h.le
      have HP : Hid (∀ w4, Below w.heap.size w w4 → RetRF w F z (z.abs.forE upTo) (z.abs.forS upTo) (.returned (.int .i64 0)) ((w4.setCell ⟨z.M, 0, none⟩ (.slice A (z.ls.length - k) (z.cap - k))).setCell ⟨z.M, 1, none⟩ (.int .i64 upTo))) := fun w4 b4 => by
        refine ⟨?_, RefOK.cut h b4 hk hk1 hkn hzA hA⟩
        unfold PLog.forE
        rw [if_neg h0]
      have bk := h.bk
      rw [hzA] at bk
      have hu1 : 0 ≤ upTo := by omega
      have hu2 : upTo ≤ 1099511627776 := by omega
      have hsubw : IntKind.i64.wrap (upTo - z.floor) = (k : Int) := by rw [IntKind.wrap_i64]; omega
      have hsub : upTo - z.floor = (k : Int) := by omega
      generalize z.abs.now = N at *
      clear h h0 hnow hnl hA hzA
      go_enter Tryd.func38, Tryd.ntmps38
      go_wp2_with fail
      refine NC.mono ?_
      clear NC
      rintro e w1 ⟨rfl, q, rfl⟩
      have b1 := drewN_below w q
      have bk1 := bk.below b1 bk.lt
      generalize w.drewN q = w1 at *
      have c0 : w1.cell? ⟨z.M, 0, none⟩ = some (.slice (some ⟨b, off, none⟩) z.ls.length z.cap) := bk1.at_ rfl
      have c1 : w1.cell? ⟨z.M, 1, none⟩ = some (.int .i64 z.floor) := bk1.at_ rfl
      have f0 := bk1.frozen 0
      have f1 := bk1.frozen 1
      clear bk bk1
      go_wp2_with fail
      clear hsub
      go_region
      all_goals
        go_wp2
        go_ret
        exact HP.out w1.drew b1.drew
    · have d2 : decide (z.floor < upTo) = false := decide_eq_false h2
      have HE : Hid (∀ w', Below w.heap.size w w' → RetRF w F z (z.abs.forE upTo) (z.abs.forS upTo) (.returned (.int .i64 0)) w') := fun w' hb => by
        unfold PLog.forE PLog.forS
        rw [if_neg h0, if_neg h0, if_neg (by rw [hfl]; exact h2)]
        exact ⟨rfl, NextR.same_below h hb⟩
      have c1 : w.cell? ⟨z.M, 1, none⟩ = some (.int .i64 z.floor) := h.bk.at_ rfl
      generalize z.abs.now = N at *
      clear h h0 hnow hnl
      go_enter Tryd.func38, Tryd.ntmps38
      go_wp2_with fail
      refine NC.mono ?_
      clear NC
      rintro e w1 ⟨rfl, q, rfl⟩
      go_wp2
      go_ret
      exact HE.out _ (drewN_below w q)
end Go.Proofs.YtdcjljlppeighaaDoor
