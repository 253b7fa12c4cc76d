/-
  Walk: a mark is kept.
-/
import Derived.Test.YtendnkklbeiegaaGreatDoorMAQ
import Derived.Deep.RegionLaw
import Derived.Deep.RegionHeld
import Derived.RangeFuncBox
namespace Go.Proofs.YtendnkklbeiegaaGreatDoor
open Go.RowKit StoreP JourP DiskP PageP

def RetSto (w : World) (base : Nat) (σ : StoL) (s' : SP) (e : Ending) (w' : World) : Prop := e = .returned (.int .i64 0) ∧ NextS w base σ s' w'
theorem boxed_kept {F : Nat → Prop} {w w' : World} {B : Nat} {t : TypeId} {v : Value} (h : Boxed w B t v) (k : Kept F w w') (hF : ¬ F B) : Boxed w' B t v := (k.block B h.lt hF).trans h
/-- A mark was appended, and the row stored. -/
theorem StoOK.marked {w w2 w3 : World} {base : Nat} {σ : StoL} {s : SP} {t : List UInt8} {v3 : Value} (h : StoOK w base σ s) (B2 : Below w.heap.size w w2) (gr3 : w2.grownBy w3 σ.v.ownBlock) (own3 : w3.ownsRow base 9 1 v3 (s.st.marks.length + 1) (s.st.marks.map txV ++ [txV t]))
    (hv3 : v3.ownBlock = σ.v.ownBlock ∨ v3.ownBlock = some w2.heap.size) : NextS w base σ { s with st := { s.st with marks := s.st.marks ++ [t] }, many := s.many + 1 } (w3.setCell ⟨σ.B, 6, none⟩ v3) := by
  have hcn := h.cnt
  have h2 := h.below B2
  have hz := B2.size
  have k0 : Kept (fun k => k = σ.B ∨ σ.v.ownBlock = some k) w w3 := ((Kept.of_below B2 _).grown gr3 (fun k hk => .inl (.inr hk)))
  have bx3 : Blk w3 σ.B 99 (σ.cells s.epoch s.puts) := (gr3.block σ.B h2.bx.lt (fun e => absurd (h.ap .box .marks σ.B rfl e.symm) (by decide))).trans h2.bx
  have hne : ∀ k, v3.ownBlock = some k → k ≠ σ.B := fun k hk e => by
    subst e
    rcases hv3 with e | e
    · exact absurd (h.ap .box .marks σ.B rfl (e.symm.trans hk)) (by decide)
    · rw [e] at hk
      have h7 := h.bx.lt
      simp at hk
      omega
  refine h.marks (v := v3) (ms := s.st.marks ++ [t]) (by simp; omega) (k0.setCell (p := ⟨σ.B, 6, none⟩) (.inl (.inl rfl)) _) (bx3.set_ 6 _) ?_ fun k hk => ?_
  · simp only [List.length_append, List.length_singleton, List.map_append, List.map_cons, List.map_nil]
    exact own_frame own3 fun k hk => heap_setCell_other _ ⟨σ.B, 6, none⟩ k _ (hne k hk)
  · rcases hv3 with e | e
    · exact .inl (e.symm.trans hk)
    · rw [e] at hk
      simp at hk
      exact .inr (by omega)
set_option maxRecDepth 100000 in
set_option maxHeartbeats 1600000 in
theorem mark_calls (σ : StoL) (s : SP) (t : List UInt8) (ht : t.length ≤ 2000) (w : World) (base : Nat) (h : StoOK w base σ s) (hG : Glob w base) (hE : addE 128 s.p ⟨77, t⟩ = 0) (hw : s.d.wait.length ≤ 50000) (hw2 : (addDS 128 s.p s.d ⟨77, t⟩).wait.length ≤ 60000) (hm : s.many ≤ 999) :
    Calls Tryz.prog 24 #[.pointer (some ⟨σ.B, 0, none⟩), .string (bstr t)] w
      (RetSto w base σ { s with st := { s.st with marks := s.st.marks ++ [t] }, many := s.many + 1, p := (s.p.addS 128 ⟨77, t⟩).sync, d := (addDS 128 s.p s.d ⟨77, t⟩).flush }) := by
  have hcn := h.cnt
  have htz : (bstr t).size = t.length := rfl
  have d1 : decide (3000 < (t.length : Int)) = false := decide_eq_false (by omega)
  have d1' : ¬ 3000 < (t.length : Int) := by omega
  have B1 : Below w.heap.size w (w.alloc (.cells #[.pointer (some ⟨σ.B, 0, none⟩)] 31)) := (Below.refl _ _).alloc (Nat.le_refl _) _
  have b1 := Boxed.new w 31 (.pointer (some ⟨σ.B, 0, none⟩))
  have s1 : (w.alloc (.cells #[.pointer (some ⟨σ.B, 0, none⟩)] 31)).heap.size = w.heap.size + 1 := by simp
  go_enter Tryz.func24, Tryz.ntmps24
  go_wp2_with fail
  revert B1 b1 s1
  generalize w.alloc (.cells #[.pointer (some ⟨σ.B, 0, none⟩)] 31) = w1
  intro B1 b1 s1
  have h1 := h.below B1
  have c1 := b1.cell
  obtain ⟨Am, cm, hvm, hc1, hc2⟩ := own_form h1.mk_
  have c6 := h1.bx.at_ (i := 6) (v := σ.v) rfl
  rw [hvm] at c6
  have B2 : Below w.heap.size w (w1.drew.alloc (.cells #[.string (bstr t)] 9)) := B1.drew.alloc (by show w.heap.size ≤ w1.heap.size; omega) _
  have B12 : Below w1.heap.size w1 (w1.drew.alloc (.cells #[.string (bstr t)] 9)) := (Below.refl _ w1).drew.alloc (Nat.le_refl _) _
  have h2 := h.below B2
  have b2 : Boxed (w1.drew.alloc (.cells #[.string (bstr t)] 9)) w.heap.size 31 (.pointer (some ⟨σ.B, 0, none⟩)) := Boxed.alloc (W := w1.drew) b1 _
  have rvn : RV (w1.drew.alloc (.cells #[.string (bstr t)] 9)) (some ⟨w.heap.size + 1, 0, none⟩) [txV t] := by
    have := RV.new w1.drew [txV t] 9 (0, 0)
    rw [show w1.drew.heap.size = w.heap.size + 1 from s1] at this
    exact this
  have l1 : s.st.marks.length + 1 ≤ maxLen := by unfold maxLen; omega
  have l2 : (s.st.marks.length + 1) * 16 ≤ 140737488355328 := by omega
  have own2 := h2.mk_
  rw [hvm] at own2
  have hb2 := h2.base_le
  have hon : ∀ u ∈ [txV t], u.oneCell' = true := fun u hu => by rw [List.mem_singleton.1 hu]; rfl
  have c2 := b2.cell
  have c62 := h2.bx.at_ (i := 6) (v := σ.v) rfl
  rw [hvm] at c62
  have c63' : (w1.alloc (.cells #[.string (bstr t)] 9)).cell? ⟨σ.B, 6, none⟩ = some (.slice Am s.st.marks.length cm) := c62
  have c12' : (w1.alloc (.cells #[.string (bstr t)] 9)).cell? ⟨w.heap.size, 0, none⟩ = some (.pointer (some ⟨σ.B, 0, none⟩)) := c2
  have HM := Lib.hid hvm
  clear hvm d1 d1' htz
  refine wp_mono (Q := fun e a' w' => match e with
    | .normal => ∃ A3 cc3, a' = { tmps := #[.pointer (some ⟨σ.B, 0, none⟩), .string (bstr t), .pointer (some ⟨w.heap.size, 0, none⟩), undef, .int .i64 0, undef, .pointer (some ⟨σ.B, 0, none⟩), .bool false, .string (bstr t), .int .i64 (t.length : Int), .bool false, .pointer (some ⟨σ.B, 0, none⟩), .pointer (some ⟨σ.B, 0, none⟩), .pointer (some ⟨σ.B, 0, none⟩), .pointer (some ⟨σ.B, 6, none⟩), .slice Am s.st.marks.length cm, .string (bstr t), .slice (some ⟨w.heap.size + 1, 0, none⟩) 1 1, .slice A3 (s.st.marks.length + 1) cc3, .pointer (some ⟨σ.B, 0, none⟩), .pointer (some ⟨σ.B, 6, none⟩), undef, undef, undef, undef, undef, undef, undef, undef, undef, undef, undef, undef, undef], defers := [] } ∧
        NextS w1 base σ { s with st := { s.st with marks := s.st.marks ++ [t] }, many := s.many + 1 } w' ∧ Boxed w' w.heap.size 31 (.pointer (some ⟨σ.B, 0, none⟩))
    | _ => False) ?_ ?_
  · go_region_law (refine step_append_rv (A := some ⟨w.heap.size + 1, 0, none⟩) (m := 1) (c := 1) (v := .slice Am s.st.marks.length cm) (n := s.st.marks.length) (base := base) (xs := s.st.marks.map txV) (news := [txV t]) el_st rfl (.tmp 15) (.tmp 17) rfl rfl own2 rfl rfl rvn hon l1 l2 hb2 ?_; intro v3 w3 own3 gr3 hv3; rw [← HM.out] at gr3 hv3; have bx3 : Blk w3 σ.B 99 (σ.cells s.epoch s.puts) := (gr3.block σ.B h2.bx.lt (fun e => absurd (h.ap .box .marks σ.B rfl e.symm) (by decide))).trans h2.bx; have c63 := bx3.at_ (i := 6) (v := σ.v) rfl; have z63 := bx3.frozen 6; have b3 : Boxed w3 w.heap.size 31 (.pointer (some ⟨σ.B, 0, none⟩)) := b2.kept gr3 (fun e => Nat.lt_irrefl _ (h.lt .marks _ e.symm)); have c13 := b3.cell; obtain ⟨A3, cc3, rfl, _, _⟩ := own_form own3)
    all_goals exact ⟨A3, cc3, rfl, h1.marked B12 gr3 own3 hv3, boxed_kept b3 (Kept.setCell (F := fun k => k = σ.B) (Kept.refl _ w3) (p := ⟨σ.B, 6, none⟩) (.inl rfl) _) (Nat.ne_of_gt h.bx.lt)⟩
  · rintro (_ | _ | _ | _ | _ | _) a' w4 hq
    case normal =>
      obtain ⟨A3, cc3, rfl, N4, b4⟩ := hq
      obtain ⟨σ4, h4, e1, e2, k4, f4⟩ := N4
      have hG1 := hG.bel B1 h.base_le
      have hG4 : Glob w4 base := hG1.below (k4.below (fun k _ hk => h.lo k hk) h1.base_le)
      have hnf : ¬ σ4.all w.heap.size := fun q => (f4 _ q).elim (fun q => Nat.lt_irrefl _ (h.all_lt q)) (fun q => by omega)
      have RC := record_calls 77 t w4.drew (by omega)
      have LC : ∀ (fv : Value) (w5 : World) (A : Option Addr) (c : Nat), Below w4.heap.size w4 w5 → RecOK w5 (fun k => k < w4.heap.size) ⟨77, A, c, t⟩ →
          Calls Tryz.prog 57 #[.pointer (some ⟨σ.B, 0, none⟩), .agg #[.int .u8 77, .slice A t.length c], fv] w5 (RetLog w5 base σ4 { s with st := { s.st with marks := s.st.marks ++ [t] }, many := s.many + 1 } ⟨77, t⟩) := fun fv w5 A c B5 hx => by
        have := logged_calls σ4 _ ⟨77, A, c, t⟩ fv w5 base (h4.below B5) (hG4.bel B5 h4.base_le) (hx.mono fun k _ hk => h4.all_lt hk) hE (by show s.d.wait.length ≤ 60000; omega)
        rw [e1] at this
        exact this
      have c4 := b4.cell
      have E1 := Lib.hid e1
      clear HM hon c2 c62 c63' c12' rvn own2 c1 c6 b1 b2 h2 hb2 e1 s1
      go_upto_region 6 with fail
      go_region_held (fun wq => wq.cell? ⟨w.heap.size, 0, none⟩ = some (.pointer (some ⟨σ.B, 0, none⟩))) (first | exact c4 | exact c5 | exact c6) (first
        | (go_at_call 58; refine RC.mono ?_; rintro e w5 ⟨⟨rk, rA, rc, rb⟩, hk, hbd, rfl, hr, B5⟩; obtain rfl : rk = 77 := hk; obtain rfl : t = rb := hbd.symm; replace B5 : Below w4.heap.size w4 w5 := ⟨B5.os, B5.tape, B5.output, B5.size, B5.block⟩; have c5 := cell_bel B5 c4; have LC5 := fun fv => LC fv w5 rA rc B5 hr)
        | (go_at_call 57; refine (LC5 _).mono ?_; rintro e w6 ⟨rfl, N6⟩; have c6 : w6.cell? ⟨w.heap.size, 0, none⟩ = some (.pointer (some ⟨σ.B, 0, none⟩)) := (boxed_kept ((B5.block _ b4.lt).trans b4) (by obtain ⟨_, _, _, _, k, _⟩ := N6; exact k) hnf).cell))
      all_goals
        obtain ⟨σ6, h6, g1, g2, k6, f6⟩ := N6
        have hwl := h6.wl
        have cj : w6.cell? ⟨σ6.B, 2, none⟩ = some (.pointer (some ⟨σ6.j.G, 0, none⟩)) := h6.bx.at_ (i := 2) rfl
        rw [g1.trans E1.out] at cj
        have JS := jsync_calls σ6.j _ w6 base h6.lg (by rw [hwl]; show (addDS 128 s.p s.d ⟨77, t⟩).wait.length ≤ 65536; omega)
        rw [h6.dk] at JS
        have G1 := Lib.hid (g1.trans E1.out)
        clear g1 RC LC LC5
        go_wp2_with (go_at_call 61; refine JS.mono ?_; rintro e w7 ⟨rfl, N7⟩; replace N7 := Lib.hid (h6.log N7))
        go_ret
        refine ⟨rfl, NextS.after B1 (NextS.from_ E1.out e2 k4 f4 (NextS.after B5 (NextS.from_ (G1.out.trans E1.out.symm) g2 k6 f6 N7.out)))⟩
    all_goals exact hq.elim
end Go.Proofs.YtendnkklbeiegaaGreatDoor
