/-
  Walk: a store's versions that have notes.
-/
import Derived.Test.YtendnkklbeiegaaGreatDoorMAC
import Derived.Shelf.SlIterI.Stops
import Derived.Shelf.SlIterI.Sorted
import Derived.Shelf.SortM.Plain
import Derived.Shelf.SortM.SortNone
namespace Go.Proofs.YtendnkklbeiegaaGreatDoor
open Go.RowKit Go.Maps Go.Sort Go.Shelf StoreP

theorem sortsN (m : Nat) : AnyZI.SortsIn Tryz.prog Tryz.sortedN_ren Fence.wide m :=
  ⟨fun blk off cap ss W hH hblk hsz => callsIn_wide.2 (AnyM.slices_Sort_int Tryz.sortN blk off cap ss W hH hblk hsz),
   fun p cap W => callsIn_wide.2 (AnyM.slices_Sort_int_none Tryz.sortN p cap W)⟩
/-- The versions that have notes. -/
def RetVers (w : World) (f : Nat → Option (List UInt8)) (nn : Nat) (e : Ending) (w' : World) : Prop :=
  ∃ (A : Option Addr) (c : Nat) (vs : List Nat), e = .returned (.slice A vs.length c) ∧ (∀ v, v ∈ vs ↔ (f v).isSome = true) ∧ vs.length ≤ nn ∧ RV w' A (vs.map fun v : Nat => Value.int .i64 (v : Int)) ∧ Below w.heap.size w w'
set_option maxHeartbeats 1000000 in
theorem vers_calls (N nn : Nat) (hnn : nn ≤ 100000) (f : Nat → Option (List UInt8)) (hok : ∀ v, (f v).isSome = true → v ≤ 1000) (w : World) (hM : MapV w 2 N nn (encN f)) :
    Calls Tryz.prog 94 #[.func (.func 133) #[] #[.pointer (some ⟨w.heap.size, 0, none⟩)]] (w.alloc (.cells #[.map (some N)] 94)) (RetVers w f nn) := by
  obtain ⟨D0, hown, hsz, hF⟩ := hM.alloc (.cells #[.map (some N)] 94)
  have hst := AnyZI.keys_stops (ρ := Tryz.keysN_ren) { Tryz.keysN with } Fence.wide 2 trivial rfl (by omega) w.heap.size N nn D0 (w.alloc (.cells #[.map (some N)] 94)) (by simp) ((Blk.new w 94 #[.map (some N)]).at_ rfl) hown
  have hseq : SeqGives Fence.wide 2 Tryz.prog 133 #[.pointer (some ⟨w.heap.size, 0, none⟩)] encZ (fun ss => ss.Perm (intKeys D0) ∧ ∀ x, x ∈ ss ↔ Maps.has D0 (.int .i64 x) = true) (Maps.size D0) (w.alloc (.cells #[.map (some N)] 94)) := fun l J W hW hJ hY h0 =>
    (hst l J (fun _ _ => False) W hW hJ (fun _ _ _ _ h _ _ => h.elim) (fun pre x W1 h1 h2 => by
      obtain ⟨fn, tmps, assign, body, hy, hR⟩ := hY pre x W1 h1 h2
      exact ⟨fn, tmps, assign, body, hy, hR.mono fun _ _ h => .inl h⟩) h0).mono fun e W' ⟨hv, hr⟩ => ⟨hv, hr.elim id fun ⟨_, _, h⟩ => h.elim⟩
  have hz1 : Maps.size D0 ≤ maxLen := by rw [hsz]; unfold maxLen; omega
  have hz2 : Maps.size D0 * 8 ≤ 140737488355328 := by rw [hsz]; omega
  have cS := AnyZI.sorted_in Tryz.sortedN Fence.wide 5 trivial trivial trivial trivial rfl (by omega) (sortsN _) (enters_of Tryz.func132 (by kernel_rfl) rfl) 133 #[.pointer (some ⟨w.heap.size, 0, none⟩)] trivial (enters_of Tryz.func133 (by kernel_rfl) rfl) _ _ hz1 hz2 _ hseq
  change CallsIn _ _ Tryz.prog 94 _ _ _ at cS
  refine (callsIn_wide.1 cS).mono ?_
  rintro e w' ⟨v, ss, rfl, ⟨hp, hmem⟩, hrow, _, hb⟩
  have hB : Below w.heap.size w w' := ((Below.refl _ w).alloc (Nat.le_refl _) _).trans (hb.mono (by simp))
  have hps : (ss.mergeSort (fun x y => decide (x ≤ y))).Perm ss := List.mergeSort_perm _ _
  have hwf := intKeys_wf hown Tryz.underlying2
  have hx : ∀ x ∈ ss, 0 ≤ x ∧ (f x.toNat).isSome = true := fun x hx => by
    have h1 := (hF (.int .i64 x) (.int .i64 x) (keyOf_int_mk Tryz.underlying2 (hwf x (hp.mem_iff.1 hx)))).1
    rw [(hmem x).1 hx] at h1
    have h2 : (encN f (.int .i64 x)).isSome = true := h1.symm
    replace h2 : (if 0 ≤ x then (f x.toNat).map txV else none).isSome = true := h2
    by_cases h0 : 0 ≤ x
    · rw [if_pos h0] at h2; exact ⟨h0, by simpa using h2⟩
    · rw [if_neg h0] at h2; cases h2
  have hlen : ss.length = nn := by
    obtain ⟨es, rfl, _⟩ := hown.keysOf
    rw [hp.length_eq, ← hsz]
    show (es.map fun p => Go.intOf p.1).length = es.length
    simp
  obtain ⟨A, c, rfl, _, _⟩ := own_form hrow
  refine ⟨A, c, (ss.mergeSort (fun x y => decide (x ≤ y))).map Int.toNat, by simp, fun v => ?_, by simp [hlen], ?_, hB⟩
  · rw [List.mem_map]
    constructor
    · rintro ⟨x, h1, rfl⟩
      exact (hx x (hps.mem_iff.1 h1)).2
    · intro hv
      have h1 := (hF (.int .i64 (v : Int)) _ (keyOf_nt v (by have := hok v hv; omega))).1
      rw [encN_at] at h1
      refine ⟨(v : Int), hps.mem_iff.2 ((hmem _).2 (h1.trans (by simpa using hv))), by simp⟩
  · have e : ((ss.mergeSort (fun x y => decide (x ≤ y))).map Int.toNat).map (fun v : Nat => Value.int .i64 (v : Int)) = (ss.mergeSort (fun x y => decide (x ≤ y))).map encZ := by
      rw [List.map_map]
      refine List.map_congr_left fun x h1 => ?_
      have := (hx x (hps.mem_iff.1 h1)).1
      show Value.int .i64 ((x.toNat : Nat) : Int) = .int .i64 x
      rw [Int.toNat_of_nonneg this]
    rw [e]
    have hr := RV.of_own hrow
    exact hr
/-- Notes of a store. -/
theorem notes_calls (σ : StoL) (s : SP) (w : World) (base : Nat) (h : StoOK w base σ s) (hok : ∀ v, (s.st.notes v).isSome = true → v ≤ 1000) (hm : s.many ≤ 1000) :
    Calls Tryz.prog 45 #[.pointer (some ⟨σ.B, 0, none⟩)] w (RetVers w s.st.notes σ.nn) := by
  have hcn := h.cnt
  have c4 := h.bx.at_ (i := 4) (v := .map (some σ.N)) rfl
  have KC : Calls Tryz.prog 95 #[.map (some σ.N)] w fun e w' => e = .returned (.func (.func 133) #[] #[.pointer (some ⟨w.heap.size, 0, none⟩)]) ∧ w' = w.alloc (.cells #[.map (some σ.N)] 94) := callsIn_wide.1 (AnyZI.keys_in Tryz.keysN Fence.wide 5 trivial rfl (some σ.N) w)
  have SC := vers_calls σ.N σ.nn (by omega) s.st.notes hok w h.nt
  go_enter Tryz.func45, Tryz.ntmps45
  go_wp2_with (first
    | (go_at_call 95; refine KC.mono ?_; rintro e w1 ⟨rfl, rfl⟩)
    | (go_at_call 94; refine SC.mono ?_; rintro e w2 ⟨A, c, vs, rfl, h1, h2, h3, h4⟩))
  go_ret
  exact ⟨A, c, vs, rfl, h1, h2, h3, h4⟩
end Go.Proofs.YtendnkklbeiegaaGreatDoor
