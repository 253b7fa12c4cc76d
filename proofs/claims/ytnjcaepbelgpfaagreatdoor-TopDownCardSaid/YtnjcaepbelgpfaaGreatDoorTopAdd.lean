/-
  Walk: a name is added to a ring.
-/
import Derived.Test.YtnjcaepbelgpfaaGreatDoorTopRing
import Derived.Deep.RegionLaw
import Derived.WalkSpells
namespace Go.Proofs.YtnjcaepbelgpfaaGreatDoor
open Go.RowKit Go.Maps Go.WideMaps TopP Go.Shelf

/-- What Add leaves. -/
def RetAdd (w : World) (r : Nat) (ks : List Txt) (L : List Pt) (t : Txt) (e : Ending) (w' : World) : Prop :=
  e = .returned (.int .i64 0) ∧ Below r w w' ∧ ∃ L', RingW w' r (ks ++ [t]) L' ∧ L'.length = L.length + 16 ∧ ∀ x, x ∈ L'.map (·.2) ↔ x ∈ L.map (·.2) ∨ x = t
theorem AddW.ret {w wr : World} {r mb : Nat} {F0 : Value → Option Value} {ks : List Txt} {L : List Pt} {t : Txt} {v : Value} {L2 : List Pt} (h : AddW w wr r mb (ks.length + 1) (setM F0 (sV t) (some (.int .i64 16))) L t 16 v L2) (hs : ∀ t, (F0 (sV t)).isSome = decide (t ∈ ks)) :
    RetAdd w r ks L t (.returned (.int .i64 0)) wr := by
  refine ⟨rfl, h.bel, L2, ⟨mb, v, _, h.blk, by rw [List.length_append]; exact h.map, fun s => ?_, h.own, h.rm, h.ne⟩, h.len, fun x => ?_⟩
  · by_cases e : s = t
    · subst e
      rw [setM_same]
      simp
    · rw [setM_other _ (fun q => e (sV_inj q)), hs s]
      simp [e]
  · rw [h.mem x]
    simp
set_option maxRecDepth 100000 in
set_option maxHeartbeats 3200000 in
theorem add_more (w : World) (r : Nat) (ks : List Txt) (L : List Pt) (t : Txt) (h1 : 1 ≤ t.length) (h2 : t.length ≤ 20) (hc : ∀ c ∈ t, 33 ≤ c.toNat ∧ c.toNat ≤ 126) (h : RingW w r ks L) (ht : t ∉ ks) (hk : ks.length ≤ 20) (hL : L.length ≤ 1000) :
    Calls Tryz.prog 10 #[.pointer (some ⟨r, 0, none⟩), .string (bstr t), .int .i64 1] w (RetAdd w r ks L t) := by
  have RC := (right_calls t h1 (by omega) hc w).mono (fun _ _ h => (⟨h.1, h.2.symm⟩ : _ ∧ w = _))
  obtain ⟨kl, hkl⟩ := key_sV (s := t) (by omega)
  obtain ⟨mb, v, F0, hb, hM, hF, ho, hrm, hne⟩ := h
  have e0 : F0 (sV t) = none := by have := hF t; rw [decide_eq_false ht] at this; simpa using this
  have c1 := hb.at_ (i := 1) (v := .map (some mb)) rfl
  have d1 : ((ks.length : Int) == 64) = false := beq_eq_false_iff_ne.2 (by omega)
  have hq := fun w a => run_eql_map_nil (P := Tryz.prog) w 56 _ _ a Tryz.underlying56
  go_enter Tryz.func10, Tryz.ntmps10
  go_upto_region 3 with (go_at_call 17; (with_reducible refine RC.mono ?_); rintro e w' ⟨rfl, rfl⟩)
  with_reducible refine wp_region_lit ?_
  with_reducible refine wpList_cutAt 5 ?_
  simp only [List.take_succ_cons, List.take_zero, List.drop_succ_cons, List.drop_zero]
  go_wp2_with fail
  with_reducible refine CutQ.go_ ?_
  with_reducible refine wpList_look_ok_V rfl (.tmp 26) (.tmp 27) 56 9 3 rfl strKeyed Tryz.underlying56 (.int .i64 0) zeroN mb ks.length F0 (by kernel_rfl) hM (sV t) kl (by kernel_rfl) hkl ?_
  rw [e0]
  simp only [Option.getD_none, Option.isSome_none]
  go_frame
  go_upto_region 6 with fail
  with_reducible refine wp_region_lit ?_
  with_reducible refine wpList_cutAt 4 ?_
  simp only [List.take_succ_cons, List.take_zero, List.drop_succ_cons, List.drop_zero]
  go_wp2_with fail
  with_reducible refine CutQ.go_ ?_
  with_reducible refine wpList_len_V rfl (.tmp 35) 56 9 3 rfl Tryz.underlying56 mb ks.length F0 (by kernel_rfl) hM ?_
  go_frame
  go_upto_region 10 with fail
  have S0 : AddW w w r mb ks.length F0 L t 0 v L := ⟨hb, hM, ho, hne, hrm, Below.refl _ _, rfl, fun x => by simp⟩
  clear hb hM ho hne hrm c1 d1 hq RC
  have c0 := S0.blk.at_ (i := 0) (v := .int .i64 16) rfl
  have c1 := S0.blk.at_ (i := 1) (v := .map (some mb)) rfl
  go_upto_region 11 with fail
  with_reducible refine wp_region_lit ?_
  with_reducible refine wpList_cutAt 6 ?_
  simp only [List.take_succ_cons, List.take_zero, List.drop_succ_cons, List.drop_zero]
  go_wp2_with fail
  with_reducible refine CutQ.go_ ?_
  with_reducible refine wpList_store_V rfl (.tmp 56) (.tmp 57) (.tmp 58) 56 9 3 rfl strKeyed Tryz.underlying56 mb ks.length F0 (by kernel_rfl) S0.map (by omega) (sV t) (.int .i64 16) kl (by kernel_rfl) (by kernel_rfl) hkl ?_
  intro w2 m2 g2
  rw [e0] at m2
  have S2 := S0.stored m2 g2
  clear S0 m2 g2 e0 hkl c0 c1
  go_frame
  go_wp2_with fail
  go_loopw [60] (fun i wr => ∃ (k : Nat) (v : Value) (L2 : List Pt), k ≤ 16 ∧ i = .int .i64 (k : Int) ∧ AddW w wr r mb (ks.length + 1) (setM F0 (sV t) (some (.int .i64 16))) L t k v L2) (fun i _ => 16 - (intOf i).toNat)
  case atStart => exact ⟨0, v, L, Nat.zero_le _, rfl, S2⟩
  case round =>
  clear S2
  obtain ⟨k, v, L2, hk16, rfl, S⟩ := hrel
  obtain ⟨A, c, hv, hnc, hcm⟩ := own_form S.own
  subst hv
  have hlen := Lib.hid S.len
  have hl2 : L2.length ≤ 1016 := by have := hlen.out; omega
  by_cases hlt : k < 16
  case neg =>
    obtain rfl : k = 16 := by omega
    have dec : decide (((16 : Nat) : Int) < 16) = false := rfl
    have hA : ∃ g, A = some ⟨g, 0, none⟩ := by
      rcases S.own.2 with ⟨_, h0⟩ | ⟨g, cap, cur, hv, _⟩
      · have := hlen.out; omega
      · injection hv with hA
        exact ⟨g, hA⟩
    obtain ⟨g, rfl⟩ := hA
    have c2 := S.blk.at_ (i := 2) (v := .slice (some ⟨g, 0, none⟩) L2.length c) rfl
    have SC := sortPt_calls L2 (by omega) r g c wr S.own
    rw [show ((16 : Nat) : Int) = 16 from rfl]
    go_wp2_with (go_at_call 20; (with_reducible refine SC.mono ?_); rintro e w' ⟨rfl, L3, hp, o3, g3⟩)
    go_ret
    exact (S.sorted hp o3 g3).ret hF
  have dec : decide ((k : Int) < 16) = true := decide_eq_true (by omega)
  have dec' : decide (k < 16) = true := decide_eq_true hlt
  have c2 := S.blk.at_ (i := 2) (v := .slice A L2.length c) rfl
  have HI := (itoa_calls k (by omega) wr.drew).mono (fun _ _ h => (⟨h.1, h.2.symm⟩ : _ ∧ wr.drew = _))
  have dk := dd_len k (by omega)
  have zk : (bstr (Lib.decDigits k)).size = (Lib.decDigits k).length := rfl
  have zt : (bstr t).size = t.length := rfl
  have sz1 : ¬ 9223372036854775807 < (bstr (Lib.decDigits k)).size + 1 := by omega
  have sz2 : ¬ 9223372036854775807 < (bstr (Lib.decDigits k)).size + 1 + (bstr t).size := by omega
  have eS : bstr (Lib.decDigits k) ++ (⟨#[35]⟩ : ByteArray) ++ bstr t = bstr (Lib.decDigits k ++ [35] ++ t) := by rw [bstr_lit, bstr_add, bstr_add]
  have HH := (hash_calls (Lib.decDigits k ++ [35] ++ t) (by simp; omega) wr.drew).mono (fun _ _ h => (⟨h.1, h.2.symm⟩ : _ ∧ wr.drew = _))
  rw [← eS] at HH
  clear eS zk zt dk
  generalize hashF (Lib.decDigits k ++ [35] ++ t) 14695981039346656037 = x at HH
  generalize Lib.decDigits k = ds at HI HH sz1 sz2
  have c2a : ∀ o, (wr.alloc o).cell? ⟨r, 2, none⟩ = some (.slice A L2.length c) := fun o => (S.blk.alloc o).at_ rfl
  have SA := fun o => S.below ((Below.refl wr.heap.size wr).alloc (Nat.le_refl _) o)
  go_upto_region 15 with fail
  go_region_law (first
    | (go_simp; first | (go_at_call 19; (with_reducible refine HI.mono ?_); rintro e w' ⟨rfl, rfl⟩) | (go_at_call 18; (with_reducible refine HH.mono ?_); rintro e w' ⟨rfl, rfl⟩))
    | (refine step_append_rv (A := some ⟨wr.heap.size, 0, none⟩) (m := 1) (c := 1) (v := .slice A L2.length c) (n := L2.length) (base := r) (xs := flK pC L2) (news := pC (x, t)) el_pt rfl (.tmp 67) (.tmp 76) rfl rfl ((SA _).own) rfl rfl (RV.new wr (pC (x, t)) 64 (0, 0)) (pC_one _) (by unfold maxLen; omega) (by omega) (Nat.le_of_lt (SA _).blk.lt) ?_; intro v6 w6 own6 gr6 hv6; have S6 := Lib.hid ((SA (.cells #[.int .u64 x, .string (bstr t)] 64)).more x own6 ⟨gr6.os, gr6.tape, gr6.output, gr6.size, gr6.block⟩ hv6); have b6 : Blk w6 r 59 #[.int .i64 16, .map (some mb), .slice A L2.length c] := (gr6.block r (SA _).blk.lt fun q => (S.ne r q.symm).1 rfl).trans (SA _).blk; (obtain ⟨A6, c6, hv6f, _, _⟩ := own_form own6); subst hv6f; have z2 : w6.cell? ⟨r, 2, none⟩ = some (.slice A L2.length c) := b6.at_ rfl; have z2f := b6.frozen 2; clear b6 own6 gr6 hv6)
    | fail "arm")
  all_goals
    have hlx : (L2 ++ [(x, t)]).length = L2.length + 1 := by simp
    clear SA HI HH S c2 c2a z2 z2f sz1 sz2
    go_wp2_with fail
    refine ⟨⟨k + 1, _, L2 ++ [(x, t)], by omega, by rw [show ((k : Int) + 1) = ((k + 1 : Nat) : Int) by omega], S6.out⟩, ?_⟩
    rw [show ((k : Int) + 1) = ((k + 1 : Nat) : Int) by omega]
    simp only [intOf, Int.toNat_natCast]
    omega
set_option maxRecDepth 100000 in
set_option maxHeartbeats 3200000 in
theorem add_first (w : World) (r : Nat) (ks : List Txt) (L : List Pt) (hks : ks = []) (hLL : L = []) (t : Txt) (h1 : 1 ≤ t.length) (h2 : t.length ≤ 20) (hc : ∀ c ∈ t, 33 ≤ c.toNat ∧ c.toNat ≤ 126) (h : Blk w r 59 #[.int .i64 16, .map none, .slice none 0 0]) :
    Calls Tryz.prog 10 #[.pointer (some ⟨r, 0, none⟩), .string (bstr t), .int .i64 1] w (RetAdd w r ks L t) := by
  have RC := (right_calls t h1 (by omega) hc w).mono (fun _ _ h => (⟨h.1, h.2.symm⟩ : _ ∧ w = _))
  obtain ⟨kl, hkl⟩ := key_sV (s := t) (by omega)
  have c1 := h.at_ (i := 1) (v := .map none) rfl
  have c1a : ∀ o, (w.alloc o).cell? ⟨r, 1, none⟩ = some (.map none) := fun o => (h.alloc o).at_ rfl
  have c1f : ∀ o, (w.alloc o).frozen? ⟨r, 1, none⟩ = false := fun o => (h.alloc o).frozen 1
  have hmm := @run_makeMap Tryz.prog
  have hlk : (Instr.lookup 56 (.map none) (.string (bstr t)) true).run Tryz.prog w = .ok (.tuple #[.int .i64 0, .bool false]) w := Maps.look_nil (P := Tryz.prog) (w := w) (t := 56) true strKeyed Tryz.underlying56 (zeroN w) hkl
  have hln := Maps.len_nil (P := Tryz.prog) (w := w) (t := 56) (k := 9) (e := 3) Tryz.underlying56
  have hq := fun w a => run_eql_map_nil (P := Tryz.prog) w 56 _ _ a Tryz.underlying56
  go_enter Tryz.func10, Tryz.ntmps10
  go_upto_region 3 with (go_at_call 17; (with_reducible refine RC.mono ?_); rintro e w' ⟨rfl, rfl⟩)
  go_upto_region 10 with fail
  have mN := (MapV.made w 9).setCell (a := ⟨r, 1, none⟩) (fun q => by have := h.lt; simp at q; omega) (.map (some w.heap.size))
  have bN := (h.alloc (.map #[] 0)).set_ 1 (.map (some w.heap.size))
  have B0 : Below r w ((w.alloc (.map #[] 0)).setCell ⟨r, 1, none⟩ (.map (some w.heap.size))) := ((Below.refl r w).alloc (Nat.le_of_lt h.lt) _).setCell (Nat.le_refl _) _
  have S0 : AddW w ((w.alloc (.map #[] 0)).setCell ⟨r, 1, none⟩ (.map (some w.heap.size))) r w.heap.size ([] : List Txt).length (fun _ => none) [] t 0 (.slice none 0 0) [] := ⟨bN, mN, World.ownsRow_nil _ _ _ _, fun g hg => (by cases hg), h.lt, B0, rfl, fun x => by simp⟩
  have hF : ∀ t : Txt, ((fun _ => none : Value → Option Value) (sV t)).isSome = decide (t ∈ ([] : List Txt)) := fun t => by simp
  have e0 : (fun _ => none : Value → Option Value) (sV t) = none := rfl
  have hk : ks.length ≤ 20 := by rw [hks]; simp
  have hL : L.length ≤ 1000 := by rw [hLL]; simp
  rw [← hks] at S0 hF
  rw [← hLL] at S0
  revert S0
  clear mN bN B0 c1 c1a c1f hmm hlk hln hq RC h hks hLL
  generalize ((w.alloc (.map #[] 0)).setCell ⟨r, 1, none⟩ (.map (some w.heap.size))) = wt
  generalize w.heap.size = mb
  revert hF e0
  generalize (fun _ => none : Value → Option Value) = F0
  intro hF e0 S0
  obtain ⟨v, hv⟩ : ∃ v : Value, v = .slice none 0 0 := ⟨_, rfl⟩
  rw [← hv] at S0
  clear hv
  have c0 := S0.blk.at_ (i := 0) (v := .int .i64 16) rfl
  have c1 := S0.blk.at_ (i := 1) (v := .map (some mb)) rfl
  go_upto_region 11 with fail
  with_reducible refine wp_region_lit ?_
  with_reducible refine wpList_cutAt 6 ?_
  simp only [List.take_succ_cons, List.take_zero, List.drop_succ_cons, List.drop_zero]
  go_wp2_with fail
  with_reducible refine CutQ.go_ ?_
  with_reducible refine wpList_store_V rfl (.tmp 56) (.tmp 57) (.tmp 58) 56 9 3 rfl strKeyed Tryz.underlying56 mb ks.length F0 (by kernel_rfl) S0.map (by omega) (sV t) (.int .i64 16) kl (by kernel_rfl) (by kernel_rfl) hkl ?_
  intro w2 m2 g2
  rw [e0] at m2
  have S2 := S0.stored m2 g2
  clear S0 m2 g2 e0 hkl c0 c1
  go_frame
  go_wp2_with fail
  go_loopw [60] (fun i wr => ∃ (k : Nat) (v : Value) (L2 : List Pt), k ≤ 16 ∧ i = .int .i64 (k : Int) ∧ AddW w wr r mb (ks.length + 1) (setM F0 (sV t) (some (.int .i64 16))) L t k v L2) (fun i _ => 16 - (intOf i).toNat)
  case atStart => exact ⟨0, v, L, Nat.zero_le _, rfl, S2⟩
  case round =>
  clear S2
  obtain ⟨k, v, L2, hk16, rfl, S⟩ := hrel
  obtain ⟨A, c, hv, hnc, hcm⟩ := own_form S.own
  subst hv
  have hlen := Lib.hid S.len
  have hl2 : L2.length ≤ 1016 := by have := hlen.out; omega
  by_cases hlt : k < 16
  case neg =>
    obtain rfl : k = 16 := by omega
    have dec : decide (((16 : Nat) : Int) < 16) = false := rfl
    have hA : ∃ g, A = some ⟨g, 0, none⟩ := by
      rcases S.own.2 with ⟨_, h0⟩ | ⟨g, cap, cur, hv, _⟩
      · have := hlen.out; omega
      · injection hv with hA
        exact ⟨g, hA⟩
    obtain ⟨g, rfl⟩ := hA
    have c2 := S.blk.at_ (i := 2) (v := .slice (some ⟨g, 0, none⟩) L2.length c) rfl
    have SC := sortPt_calls L2 (by omega) r g c wr S.own
    rw [show ((16 : Nat) : Int) = 16 from rfl]
    go_wp2_with (go_at_call 20; (with_reducible refine SC.mono ?_); rintro e w' ⟨rfl, L3, hp, o3, g3⟩)
    go_ret
    exact (S.sorted hp o3 g3).ret hF
  have dec : decide ((k : Int) < 16) = true := decide_eq_true (by omega)
  have dec' : decide (k < 16) = true := decide_eq_true hlt
  have c2 := S.blk.at_ (i := 2) (v := .slice A L2.length c) rfl
  have HI := (itoa_calls k (by omega) wr.drew).mono (fun _ _ h => (⟨h.1, h.2.symm⟩ : _ ∧ wr.drew = _))
  have dk := dd_len k (by omega)
  have zk : (bstr (Lib.decDigits k)).size = (Lib.decDigits k).length := rfl
  have zt : (bstr t).size = t.length := rfl
  have sz1 : ¬ 9223372036854775807 < (bstr (Lib.decDigits k)).size + 1 := by omega
  have sz2 : ¬ 9223372036854775807 < (bstr (Lib.decDigits k)).size + 1 + (bstr t).size := by omega
  have eS : bstr (Lib.decDigits k) ++ (⟨#[35]⟩ : ByteArray) ++ bstr t = bstr (Lib.decDigits k ++ [35] ++ t) := by rw [bstr_lit, bstr_add, bstr_add]
  have HH := (hash_calls (Lib.decDigits k ++ [35] ++ t) (by simp; omega) wr.drew).mono (fun _ _ h => (⟨h.1, h.2.symm⟩ : _ ∧ wr.drew = _))
  rw [← eS] at HH
  clear eS zk zt dk
  generalize hashF (Lib.decDigits k ++ [35] ++ t) 14695981039346656037 = x at HH
  generalize Lib.decDigits k = ds at HI HH sz1 sz2
  have c2a : ∀ o, (wr.alloc o).cell? ⟨r, 2, none⟩ = some (.slice A L2.length c) := fun o => (S.blk.alloc o).at_ rfl
  have SA := fun o => S.below ((Below.refl wr.heap.size wr).alloc (Nat.le_refl _) o)
  go_upto_region 15 with fail
  go_region_law (first
    | (go_simp; first | (go_at_call 19; (with_reducible refine HI.mono ?_); rintro e w' ⟨rfl, rfl⟩) | (go_at_call 18; (with_reducible refine HH.mono ?_); rintro e w' ⟨rfl, rfl⟩))
    | (refine step_append_rv (A := some ⟨wr.heap.size, 0, none⟩) (m := 1) (c := 1) (v := .slice A L2.length c) (n := L2.length) (base := r) (xs := flK pC L2) (news := pC (x, t)) el_pt rfl (.tmp 67) (.tmp 76) rfl rfl ((SA _).own) rfl rfl (RV.new wr (pC (x, t)) 64 (0, 0)) (pC_one _) (by unfold maxLen; omega) (by omega) (Nat.le_of_lt (SA _).blk.lt) ?_; intro v6 w6 own6 gr6 hv6; have S6 := Lib.hid ((SA (.cells #[.int .u64 x, .string (bstr t)] 64)).more x own6 ⟨gr6.os, gr6.tape, gr6.output, gr6.size, gr6.block⟩ hv6); have b6 : Blk w6 r 59 #[.int .i64 16, .map (some mb), .slice A L2.length c] := (gr6.block r (SA _).blk.lt fun q => (S.ne r q.symm).1 rfl).trans (SA _).blk; (obtain ⟨A6, c6, hv6f, _, _⟩ := own_form own6); subst hv6f; have z2 : w6.cell? ⟨r, 2, none⟩ = some (.slice A L2.length c) := b6.at_ rfl; have z2f := b6.frozen 2; clear b6 own6 gr6 hv6)
    | fail "arm")
  all_goals
    have hlx : (L2 ++ [(x, t)]).length = L2.length + 1 := by simp
    clear SA HI HH S c2 c2a z2 z2f sz1 sz2
    go_wp2_with fail
    refine ⟨⟨k + 1, _, L2 ++ [(x, t)], by omega, by rw [show ((k : Int) + 1) = ((k + 1 : Nat) : Int) by omega], S6.out⟩, ?_⟩
    rw [show ((k : Int) + 1) = ((k + 1 : Nat) : Int) by omega]
    simp only [intOf, Int.toNat_natCast]
    omega
end Go.Proofs.YtnjcaepbelgpfaaGreatDoor
