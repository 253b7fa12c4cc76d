/-
  Walk: alive: the set of two spans that touch has the text "2-5".
-/
import Derived.Test.YtnjcaepbelgpfaaGreatDoorTopOf
import Derived.Test.YtnjcaepbelgpfaaGreatDoorTopBld
namespace Go.Proofs.YtnjcaepbelgpfaaGreatDoor
open Go.RowKit Go.Maps Go.WideMaps TopP Go.Shelf

theorem dd2 : Lib.decDigits 2 = [50] := by kernel_rfl
theorem dd5 : Lib.decDigits 5 = [53] := by kernel_rfl
theorem open25 (w : World) : Calls Tryz.prog 47 #[.agg #[.int .i64 2, .int .i64 5]] w fun e w' => e = .returned (.bool false) ∧ Below w.heap.size w w' := by
  have B1 : Hid (Below w.heap.size w (w.alloc (.cells #[.int .i64 2, .int .i64 5] 48))) := (Below.refl _ _).alloc (Nat.le_refl _) _
  go_enter Tryz.func47, Tryz.ntmps47
  go_wp2
  go_ret
  exact ⟨rfl, B1.out⟩
set_option maxRecDepth 100000 in
set_option maxHeartbeats 1600000 in
theorem spantext25 (w : World) : Calls Tryz.prog 32 #[.agg #[.int .i64 2, .int .i64 5]] w fun e w' => e = .returned (.string (bstr [50, 45, 53])) ∧ Below w.heap.size w w' := by
  have RC := fun w => spright_calls (2, 5) ⟨by decide, by decide, by decide⟩ w
  have OC := fun w => open25 w
  have F2 : ∀ w, Calls Tryz.prog 46 #[.int .i64 2, .int .i64 10] w fun e w' => e = .returned (.string (bstr [50])) ∧ w = w' := fun w => by
    have h := fmt_calls 2 (by omega) w
    rw [dd2] at h
    exact h.mono fun _ _ h => ⟨h.1, h.2.symm⟩
  have F5 : ∀ w, Calls Tryz.prog 46 #[.int .i64 5, .int .i64 10] w fun e w' => e = .returned (.string (bstr [53])) ∧ w = w' := fun w => by
    have h := fmt_calls 5 (by omega) w
    rw [dd5] at h
    exact h.mono fun _ _ h => ⟨h.1, h.2.symm⟩
  have bP := Blk.new w 48 #[.int .i64 2, .int .i64 5]
  have B1 := (Below.refl w.heap.size w).alloc (Nat.le_refl _) (.cells #[.int .i64 2, .int .i64 5] 48)
  have z2 : (bstr [50]).size = 1 := rfl
  have z3 : (bstr [50, 45]).size = 2 := rfl
  have z5 : (bstr [53]).size = 1 := rfl
  have a1 : bstr [50] ++ (⟨#[45]⟩ : ByteArray) = bstr [50, 45] := by rw [bstr_lit, bstr_add]; rfl
  have a2 : bstr [50, 45] ++ bstr [53] = bstr [50, 45, 53] := by rw [bstr_add]; rfl
  go_enter Tryz.func32, Tryz.ntmps32
  go_upto_region 1 with fail
  revert bP B1
  generalize (w.alloc (.cells #[.int .i64 2, .int .i64 5] 48)) = w1
  intro bP B1
  obtain ⟨gP, hgP⟩ : ∃ g, g = w.heap.size := ⟨_, rfl⟩
  rw [← hgP] at bP ⊢
  clear hgP
  have p0 := bP.at_ (i := 0) (v := .int .i64 2) rfl
  have p1 := bP.at_ (i := 1) (v := .int .i64 5) rfl
  go_wp2_with (first
    | (go_at_call 25; (with_reducible refine (RC _).mono ?_); rintro e w2 ⟨rfl, b2⟩; have bP2 := bP.below b2 bP.lt; have B2 := B1.trans (b2.mono B1.size); have q0 := bP2.at_ (i := 0) (v := .int .i64 2) rfl; have q1 := bP2.at_ (i := 1) (v := .int .i64 5) rfl)
    | (go_at_call 47; (with_reducible refine (OC _).mono ?_); rintro e w3 ⟨rfl, b3⟩; have bP3 := bP2.below b3 bP2.lt; have B3 := B2.trans (b3.mono B2.size); have r1 := bP3.at_ (i := 1) (v := .int .i64 5) rfl)
    | (have _q := B3; go_at_call 46; (with_reducible refine (F5 _).mono ?_); rintro e w' ⟨rfl, rfl⟩)
    | (go_at_call 46; (with_reducible refine (F2 _).mono ?_); rintro e w' ⟨rfl, rfl⟩))
  go_ret
  exact ⟨rfl, B3⟩
set_option maxRecDepth 100000 in
set_option maxHeartbeats 1600000 in
theorem settext25 (A : Option Addr) (c : Nat) (w : World) (hR : RV w A (flK sC [(2, 5)])) : Calls Tryz.prog 13 #[.agg #[.slice A 1 c]] w fun e w' => e = .returned (.string (bstr [50, 45, 53])) ∧ Below w.heap.size w w' := by
  have TC := fun w => spantext25 w
  have bS := Blk.new w 45 #[.slice A 1 c]
  have B1 := (Below.refl w.heap.size w).alloc (Nat.le_refl _) (.cells #[.slice A 1 c] 45)
  go_enter Tryz.func13, Tryz.ntmps13
  go_upto_region 3 with fail
  revert bS B1
  generalize (w.alloc (.cells #[.slice A 1 c] 45)) = w1
  intro bS B1
  obtain ⟨gS, hgS⟩ : ∃ g, g = w.heap.size := ⟨_, rfl⟩
  rw [← hgS] at bS ⊢
  have hgw : w.heap.size ≤ gS := by omega
  clear hgS
  have bd := bld_new w1
  have B2 := B1.alloc B1.size (.cells #[.pointer none, .slice none 0 0] 78)
  have bS2 := bS.alloc (.cells #[.pointer none, .slice none 0 0] 78)
  have hw1 := B1.size
  have hsz2 : w1.heap.size ≤ (w1.alloc (.cells #[.pointer none, .slice none 0 0] 78)).heap.size := by simp
  go_upto_region 4 with fail
  revert bd B2 bS2 hsz2
  generalize (w1.alloc (.cells #[.pointer none, .slice none 0 0] 78)) = w2
  obtain ⟨gB, hgB⟩ : ∃ g, g = w1.heap.size := ⟨_, rfl⟩
  rw [← hgB]
  have hgBw : w.heap.size ≤ gB := by omega
  clear hgB B1 bS hw1
  intro bd B2 bS2 hsz2
  have s0 := bS2.at_ (i := 0) (v := .slice A 1 c) rfl
  go_wp2_with fail
  clear s0
  go_loopw [13] (fun i wr => ∃ k : Nat, k ≤ 1 ∧ i = .int .i64 (k : Int) ∧ Bld gB gB (if k = 0 then [] else [50, 45, 53]) wr ∧ Below w.heap.size w wr ∧ gB ≤ wr.heap.size) (fun i _ => 1 - (intOf i).toNat)
  case atStart => exact ⟨0, Nat.zero_le _, rfl, bd, B2, hsz2⟩
  case round =>
  clear bd B2 bS2 hsz2
  obtain ⟨k, hk, rfl, bd, B, hgl⟩ := hrel
  by_cases hlt : k < 1
  · obtain rfl : k = 0 := by omega
    rw [if_pos rfl] at bd
    obtain ⟨b, off, rfl, hbs, e0, e1⟩ := sp_at (hR.below B) (i := 0) (by simp)
    rw [show ((0 : Nat) : Int) = 0 from rfl]
    rw [show off + 0 * 2 = off by omega] at e0
    rw [show off + 0 * 2 + 1 = off + 1 by omega] at e1
    have f0 : wr.cell? ⟨b, off, none⟩ = some (.int .i64 2) := e0
    have f1 : wr.cell? ⟨b, off + 1, none⟩ = some (.int .i64 5) := e1
    clear e0 e1
    go_upto_region 7 with fail
    have bP0 := Blk.new wr 48 #[.int .i64 2, .int .i64 5]
    have dP := (Below.refl wr.heap.size wr).alloc (Nat.le_refl _) (.cells #[.int .i64 2, .int .i64 5] 48)
    revert bP0 dP
    generalize (wr.alloc (.cells #[.int .i64 2, .int .i64 5] 48)) = w2
    intro bP0 dP
    have bd2 : Bld gB gB [] w2 := bld_below bd dP
    have B2 : Below w.heap.size w w2 := B.trans (dP.mono B.size)
    have hg2 : gB ≤ w2.heap.size := Nat.le_trans hgl dP.size
    obtain ⟨gP, hgP⟩ : ∃ g, g = wr.heap.size := ⟨_, rfl⟩
    rw [← hgP] at bP0 ⊢
    have p0 := bP0.at_ (i := 0) (v := .int .i64 2) rfl
    have p1 := bP0.at_ (i := 1) (v := .int .i64 5) rfl
    have HW : Hid (∀ w3, Below w2.heap.size w2 w3 → Below w.heap.size w w3 ∧ gB ≤ w3.heap.size ∧ Calls Tryz.prog 31 #[.pointer (some ⟨gB, 0, none⟩), .string (bstr [50, 45, 53])] w3 fun e w' => (∃ v, e = .returned v) ∧ Bld gB gB [50, 45, 53] w' ∧ Below gB w3 w') := fun w3 d => ⟨B2.trans (d.mono B2.size), Nat.le_trans hg2 d.size, wstr_calls gB gB [] [50, 45, 53] w3 (bld_below bd2 d) (by simp) (Nat.le_trans hg2 d.size)⟩
    clear hgP bd B hgl bd2 B2 dP hbs f0 f1 bP0 hg2
    go_wp2_with (first
      | (go_at_call 32; (with_reducible refine (TC _).mono ?_); rintro e w3 ⟨rfl, b3⟩; obtain ⟨B3, hg3, WC⟩ := HW.out w3 b3)
      | (go_at_call 31; (with_reducible refine WC.mono ?_); rintro e w4 ⟨⟨v4, rfl⟩, bd4, b4⟩))
    have hg4 := Nat.le_trans hg3 b4.size
    exact ⟨⟨1, by omega, rfl, by rw [if_neg (by omega)]; exact bd4, B3.trans (b4.mono hgBw), hg4⟩, by decide⟩
  · obtain rfl : k = 1 := by omega
    rw [if_neg (by omega)] at bd
    rw [show ((1 : Nat) : Int) = 1 from rfl]
    have SC := bstring_calls gB gB [50, 45, 53] wr bd hgl
    go_wp2_with (go_at_call 33; (with_reducible refine SC.mono ?_); rintro e w2 ⟨rfl, b2⟩)
    go_ret
    exact ⟨rfl, B.trans (b2.mono hgBw)⟩
set_option maxRecDepth 100000 in
set_option maxHeartbeats 1600000 in
theorem alive_calls (w : World) : Calls Tryz.prog 5 #[] w fun e w' => e = .returned (.bool true) ∧ Below w.heap.size w w' := by
  have OC := of_calls (w.alloc (.cells #[.int .i64 2, .int .i64 4, .int .i64 4, .int .i64 5] 48)) (some ⟨w.heap.size, 0, none⟩) 2 [(2, 4), (4, 5)] (by simp) (by simp) (RV.new w (flK sC [(2, 4), (4, 5)]) 48 (0, 0)) (fun x hx => by
    rcases List.mem_cons.1 hx with rfl | hx
    · exact ⟨by decide, by decide, by decide⟩
    · rw [List.mem_singleton.1 hx]; exact ⟨by decide, by decide, by decide⟩)
  have B1 := (Below.refl w.heap.size w).alloc (Nat.le_refl _) (.cells #[.int .i64 2, .int .i64 4, .int .i64 4, .int .i64 5] 48)
  have OC2 : Calls Tryz.prog 12 #[.slice (some ⟨w.heap.size, 0, none⟩) 2 2] (w.alloc (.cells #[.int .i64 2, .int .i64 4, .int .i64 4, .int .i64 5] 48)) fun e w' => ∃ A c, e = .returned (.agg #[.slice A 1 c]) ∧ RV w' A (flK sC [(2, 5)]) ∧ Below w.heap.size w w' := by
    refine OC.mono ?_
    rintro e w' ⟨v, L', rfl, hp, hs, ow, b⟩
    have hL : L' = [(2, 4), (4, 5)] := by
      have hlen := hp.length_eq
      obtain ⟨x, y, rfl⟩ : ∃ x y, L' = [x, y] := by
        match L', hlen with
        | [x, y], _ => exact ⟨x, y, rfl⟩
      have h1 := hs 0 1 (by omega) (by simp)
      have hx : x ∈ [((2 : Int), (4 : Int)), (4, 5)] := hp.mem_iff.1 (by simp)
      have hy : y ∈ [((2 : Int), (4 : Int)), (4, 5)] := hp.mem_iff.1 (by simp)
      have hnd : [x, y].Nodup := hp.nodup_iff.2 (by decide)
      have h1' : x.1 ≤ y.1 := h1
      have hne : x ≠ y := by simpa using hnd
      rcases List.mem_cons.1 hx with rfl | hx <;> rcases List.mem_cons.1 hy with rfl | hy
      · exact absurd rfl hne
      · rw [List.mem_singleton.1 hy]
      · rw [List.mem_singleton.1 hx] at h1'
        exact absurd h1' (by decide)
      · exact absurd ((List.mem_singleton.1 hx).trans (List.mem_singleton.1 hy).symm) hne
    have hg : L'.foldl gStep [] = [(2, 5)] := by rw [hL]; decide
    rw [hg] at ow
    obtain ⟨A, c, rfl, _⟩ := own_form ow
    exact ⟨A, c, rfl, Sps.rv ow, B1.trans (b.mono B1.size)⟩
  clear OC
  have SC := fun A c w' (h : RV w' A (flK sC [(2, 5)])) => settext25 A c w' h
  have eq : ((bstr [50, 45, 53]).toList == [50, 45, 53]) = true := by rw [bstr_list]; rfl
  go_enter Tryz.func5, Tryz.ntmps5
  go_wp2_with (first
    | (go_at_call 12; (with_reducible refine OC2.mono ?_); rintro e w2 ⟨A, c, rfl, rv, B2⟩)
    | (go_at_call 13; (with_reducible refine (SC _ _ _ rv).mono ?_); rintro e w3 ⟨rfl, b3⟩))
  go_ret
  exact ⟨rfl, B2.trans (b3.mono B2.size)⟩
end Go.Proofs.YtnjcaepbelgpfaaGreatDoor
