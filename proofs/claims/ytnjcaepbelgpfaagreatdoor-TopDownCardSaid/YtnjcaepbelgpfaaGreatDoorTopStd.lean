/-
  What the library's functions give the ring: numerals; numbers; sorting; a builder.
-/
import Derived.Test.YtnjcaepbelgpfaaGreatDoorTopMem
import Derived.Test.YtnjcaepbelgpfaaGreatDoorShelf
import Derived.Deep.Cut
namespace Go.Proofs.YtnjcaepbelgpfaaGreatDoor
open Go.RowKit Go.Maps Go.WideMaps TopP Go.Shelf

theorem bstr_add (a b : List UInt8) : bstr a ++ bstr b = bstr (a ++ b) := by
  unfold bstr
  apply ByteArray.ext
  simp
theorem bstr_lit (l : Array UInt8) : (⟨l⟩ : ByteArray) = bstr l.toList := rfl
theorem itoa_calls (i : Nat) (hi : i < 100) (w : World) : Calls Tryz.prog 19 #[.int .i64 i] w fun e w' => e = .returned (.string (bstr (Lib.decDigits i))) ∧ w' = w := Tryz.strconv_Itoa_small i hi w
theorem fmt_calls (i : Nat) (hi : i < 100) (w : World) : Calls Tryz.prog 46 #[.int .i64 i, .int .i64 10] w fun e w' => e = .returned (.string (bstr (Lib.decDigits i))) ∧ w' = w := Tryz.strconv_FormatInt_10_small i hi w
theorem dd_len : ∀ p, p < 100 → (Lib.decDigits p).length ≤ 2 := of_decide_eq_true (by kernel_rfl)
/-- The name of a parent. -/
def nm (p : Nat) : Txt := 112 :: Lib.decDigits p
theorem atoi_dec : ∀ p, p < 10 → Lib.atoiAll (Lib.decDigits p) = .ok (p : Int) ∧ (Lib.decDigits p).length = 1 ∧ ∀ c ∈ Lib.decDigits p, 33 ≤ c.toNat ∧ c.toNat ≤ 126 := of_decide_eq_true (by kernel_rfl)
theorem atoi_calls (p : Nat) (hp : p < 10) (w : World) : Calls Tryz.prog 15 #[.string (bstr (Lib.decDigits p))] w fun e w' => e = .returned (.tuple #[.int .i64 p, .nilIface]) ∧ Below w.heap.size w w' := by
  have e1 : (bstr (Lib.decDigits p)).data.toList = Lib.decDigits p := by simp [bstr]
  have hz : (bstr (Lib.decDigits p)).size = 1 := (atoi_dec p hp).2.1
  refine (Tryz.strconv_Atoi_ok (bstr (Lib.decDigits p)) (by rw [hz]; omega) p (by rw [e1]; exact (atoi_dec p hp).1) w).mono ?_
  rintro e w' ⟨rfl, rfl | ⟨t, rfl⟩⟩
  · exact ⟨rfl, Below.refl _ _⟩
  · exact ⟨rfl, Lib.bytesWorld_below _ _ _⟩
theorem nm_len (p : Nat) (hp : p < 10) : (nm p).length = 2 := by
  have := (atoi_dec p hp).2.1
  simp [nm, this]
theorem nm_ok (p : Nat) (hp : p < 10) : ∀ c ∈ nm p, 33 ≤ c.toNat ∧ c.toNat ≤ 126 := fun c hc => by
  rcases List.mem_cons.1 hc with rfl | hc
  · decide
  · exact (atoi_dec p hp).2.2 c hc
theorem nm_inj : ∀ p, p < 10 → ∀ q, q < 10 → nm p = nm q → p = q := of_decide_eq_true (by kernel_rfl)
theorem name_calls (p : Nat) (hp : p < 100) (w : World) : Calls Tryz.prog 11 #[.int .i64 p] w fun e w' => e = .returned (.string (bstr (nm p))) ∧ w' = w := by
  have I := itoa_calls p hp w
  have hz : ¬ 9223372036854775807 < 1 + (bstr (Lib.decDigits p)).size := by
    have := dd_len p hp
    have e : (bstr (Lib.decDigits p)).size = (Lib.decDigits p).length := rfl
    omega
  have e0 : Hid ((⟨#[112]⟩ : ByteArray) ++ bstr (Lib.decDigits p) = bstr (nm p)) := by
    show _ = _
    rw [bstr_lit, bstr_add]
    rfl
  go_enter Tryz.func11, Tryz.ntmps11
  go_wp2_with (go_at_call 19; (with_reducible refine I.mono ?_); rintro e w' ⟨rfl, rfl⟩)
  go_ret
  exact ⟨by rw [← e0.out]; rfl, rfl⟩
set_option maxRecDepth 100000 in
set_option maxHeartbeats 1600000 in
theorem right_calls (s : Txt) (h1 : 1 ≤ s.length) (h2 : s.length ≤ 100) (hc : ∀ c ∈ s, 33 ≤ c.toNat ∧ c.toNat ≤ 126) (w : World) : Calls Tryz.prog 17 #[.string (bstr s)] w fun e w' => e = .returned (.bool true) ∧ w' = w := by
  have sz : (bstr s).size = s.length := rfl
  have hb := get_bAt s
  have d1 : ¬ ((s.length : Int) < 1) := by omega
  have d2 : ¬ (100 < (s.length : Int)) := by omega
  go_enter Tryz.func17, Tryz.ntmps17
  go_wp2
  go_loopw [14] (fun i wr => ∃ k : Nat, k ≤ s.length ∧ i = .int .i64 k ∧ wr = w) (fun i _ => s.length - (intOf i).toNat)
  case atStart => exact ⟨0, Nat.zero_le _, rfl, rfl⟩
  case round =>
    obtain ⟨k, hk, rfl, rfl⟩ := hrel
    by_cases hlt : k < s.length
    · have dec : decide ((k : Int) < (s.length : Int)) = true := decide_eq_true (by omega)
      have dec' : decide (k < s.length) = true := decide_eq_true hlt
      have hcc := hc _ (List.getElem_mem hlt)
      have hbk := bAt_get hlt
      have b1 : 33 ≤ bAt s k := by omega
      have b2 : bAt s k ≤ 126 := by omega
      have b3 : ¬ bAt s k < 33 := by omega
      have b4 : ¬ 126 < bAt s k := by omega
      clear hbk hcc hc
      go_wp2
      refine ⟨⟨k + 1, by omega, by rw [show ((k : Int) + 1) = ((k + 1 : Nat) : Int) by omega], trivial⟩, ?_⟩
      rw [show ((k : Int) + 1) = ((k + 1 : Nat) : Int) by omega]
      simp only [intOf, Int.toNat_natCast]
      omega
    · obtain rfl : k = s.length := by omega
      have dec : decide ((s.length : Int) < (s.length : Int)) = false := decide_eq_false (by omega)
      go_wp2
      go_ret
      exact ⟨rfl, rfl⟩
/-- The row of points, sorted by the library. -/
theorem sortPt_calls (L : List Pt) (hL : L.length ≤ 100000) (base g cap : Nat) (w : World) (h : w.ownsRow base 64 2 (.slice (some ⟨g, 0, none⟩) L.length cap) L.length (flK pC L)) :
    Calls Tryz.prog 20 #[.slice (some ⟨g, 0, none⟩) L.length cap, .func (.func 21) #[] #[]] w fun e w' => e = .returned (.tuple #[]) ∧ ∃ L' : List Pt, L'.Perm L ∧ w'.ownsRow base 64 2 (.slice (some ⟨g, 0, none⟩) L.length cap) L.length (flK pC L') ∧ w.grownBy w' (some g) := by
  have eg : ∀ args w, (callFunc 21 args).run Tryz.prog w = .ok (.enter 21 args) w := enters_of Tryz.func21 (by kernel_rfl) rfl
  obtain ⟨hb, ht⟩ : ∃ cur, w.heap[g]? = some (.cells cur 64 (0, 0)) ∧ cur.toList.take (L.length * 2) = flK pC L := by
    rcases h.2 with ⟨h0, _⟩ | ⟨g', cap', cur, hv, _, h2, _, _, _, h6⟩
    · cases h0
    injection hv with hA
    injection hA with hA
    injection hA with hA
    subst hA
    exact ⟨cur, h2, h6⟩
  have hcon := AnyQ.slices_SortFunc Tryz.sortPt 2 Tryz.isAgg64 Tryz.sizeOf64 pC pC_len pC_one ptF pt_swo 21 #[] g 0 cap L.toArray w eg (fun _ _ _ _ x y => order_calls x y _) (holdsK_own pC_len ht.1 ht.2) (lt_of_block ht.1) (by simp; omega)
  rw [List.size_toArray] at hcon
  refine hcon.mono ?_
  rintro e w' ⟨rfl, d', n, os, hp, _, rfl⟩
  have hperm := perm_of_permIn (d := L) (d' := d') hp
  refine ⟨rfl, d'.toList, hperm, ?_, grown_sortedK pC 2 w g n os d'⟩
  have := own_sortedK (n := n) (os := os) pC_len (d := L) (d' := d'.toList) hperm.length_eq h
  simpa using this
end Go.Proofs.YtnjcaepbelgpfaaGreatDoor
