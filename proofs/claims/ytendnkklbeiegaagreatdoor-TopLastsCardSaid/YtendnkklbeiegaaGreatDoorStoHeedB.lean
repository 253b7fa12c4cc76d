/-
  Walk: a slice's record is heeded; any act's record is heeded.
-/
import Derived.Test.YtendnkklbeiegaaGreatDoorMAQ
import Derived.Test.YtendnkklbeiegaaGreatDoorMAS
import Derived.Test.YtendnkklbeiegaaGreatDoorMAD
namespace Go.Proofs.YtendnkklbeiegaaGreatDoor
open Go.RowKit Go.Maps StoreP JourP

/-- 'm[k] = v', as a fact of the world. -/
theorem MapV.update {w : World} {t K E : TypeId} {b m : Nat} {F : Value → Option Value} (h : MapV w K b m F) (hK : Keyed Tryz.prog K) (ht : Tryz.prog.underlying t = some (.map K E)) (hn : m < 9223372036854775807) {key : Value} {kl : Lit} (u : Value) (hkey : keyOf Tryz.prog K key = some kl) :
    ∃ w', (Instr.mapUpdate t (.map (some b)) key u).run Tryz.prog w = .ok () w' ∧ MapV w' K b (if (F key).isSome then m else m + 1) (setM F key (some u)) ∧ w.grownBy w' (some b) := by
  obtain ⟨D, h, hs, h'⟩ := h
  obtain ⟨w', hrun, h1, h2⟩ := h.update hK ht (show m < maxLen by unfold maxLen; omega) hkey (val := u) (d := .held u) (ps := []) rfl
  refine ⟨w', hrun, ?_, h2⟩
  have e0 := (h' key kl hkey).1
  have hsz : Maps.size (D.put kl (.held u)) = if (F key).isSome then m else m + 1 := by
    by_cases hh : Maps.has D kl = true
    · rw [size_put_le (h.tidy hK) hh, hs, ← e0, hh]; rfl
    · have hh' : Maps.has D kl = false := by simpa using hh
      rw [size_put h.isMap hh', hs, ← e0, hh']; rfl
  refine ⟨_, by rw [← hsz]; exact World.ownsMap.exact h1, hsz, fun key' kl' hkey' => ?_⟩
  by_cases e : key' = key
  · subst e
    obtain rfl : kl = kl' := Option.some.inj (hkey.symm.trans hkey')
    rw [setM_same, has_put_same h.isMap (hK.key hkey)]
    exact ⟨rfl, fun z => by rw [atKey_put_same h.isMap (hK.key hkey)]; rfl⟩
  · have e' : kl' ≠ kl := fun q => e (hK.inj hkey' (q ▸ hkey))
    rw [setM_other _ e, has_put_other e']
    exact ⟨(h' key' kl' hkey').1, fun z => by rw [atKey_put_other e']; exact (h' key' kl' hkey').2 z⟩
theorem cell_grown {w w' : World} {g b i : Nat} {v : Value} (hg : w.grownBy w' (some g)) (hb : b ≠ g) (h : w.cell? ⟨b, i, none⟩ = some v) : w'.cell? ⟨b, i, none⟩ = some v :=
  (World.cell?_of_block (w := w) (hg.block b (World.block_lt_of_cell? w ⟨b, i, none⟩ h) (fun e => hb (Option.some.inj e)))).trans h
theorem slot_calls (σ : StoL) (s : SP) (at_ len mark : Nat) (hl : len ≤ 110) (w : World) (base : Nat) (h : StoOK w base σ s) :
    Calls Tryz.prog 125 #[.pointer (some ⟨σ.B, 0, none⟩), .int .i64 (at_ : Int), .int .i64 (len : Int), .int .i64 (mark : Int)] w fun e w' => e = .returned (slotV ⟨at_, len, mark⟩) ∧ Below w.heap.size w w' := by
  have B1 : Below w.heap.size w (w.alloc (.cells #[.int .i64 0, .int .i64 0, .int .i64 0, .int .i64 0] 112)) := (Below.refl _ _).alloc (Nat.le_refl _) _
  have k1 := Blk.new w 112 #[.int .i64 0, .int .i64 0, .int .i64 0, .int .i64 0]
  have h1 := h.below B1
  have c1 := h1.bx.at_ (i := 1) (v := .int .i64 128) rfl
  have PN := pneed_calls 128 (len : Int) (w.alloc (.cells #[.int .i64 0, .int .i64 0, .int .i64 0, .int .i64 0] 112))
  rw [need_one hl] at PN
  have c0 := k1.at_ (i := 0) rfl
  have z0 := k1.frozen 0
  unfold slotV
  go_enter Tryz.func125, Tryz.ntmps125
  go_wp2_with (go_at_call 28; refine PN.mono ?_; rintro e w2 ⟨rfl, rfl⟩)
  refine bodyPost_ret (results_cell_row rfl _ _ w.heap.size 112 #[.int .i64 (at_ : Int), .int .i64 1, .int .i64 (len : Int), .int .i64 (mark : Int)] (0, 0) _ (by kernel_rfl) (Blk.new w 112 #[.int .i64 (at_ : Int), .int .i64 1, .int .i64 (len : Int), .int .i64 (mark : Int)]) Tryz.underlying112 (by kernel_rfl) (by kernel_rfl)) rfl ?_
  exact ⟨rfl, (Below.refl _ _).alloc (Nat.le_refl _) _⟩
set_option maxRecDepth 100000 in
set_option maxHeartbeats 1600000 in
theorem heedSlice_calls (σ : StoL) (s : SP) (n : Nm) (x : Slot) (hn : okN n) (hx : okS x) (h1 : 1 ≤ x.len) (h4 : x.len ≤ 4) (w : World) (base : Nat) (h : StoOK w base σ s) (hG : Glob w base) (hm : s.many ≤ 1000) :
    Calls Tryz.prog 80 #[.pointer (some ⟨σ.B, 0, none⟩), .string (bstr (numsT (x.nums n)))] w (RetHeed w base σ s (.put n x)) := by
  have hcn := h.cnt
  have hs := nums_small hn hx
  have NC : Calls Tryz.prog 79 #[.string (bstr (numsT (x.nums n))), .int .i64 5] w (RetNum w (x.nums n)) := numbers_calls (x.nums n) (by simp [Slot.nums]) hs (by simp [Slot.nums]) w base hG h.base_le
  have RC0 := fun w' => right_sto_calls (n.1 : Int) w' (by omega) (by have := hn.1; omega)
  have RC1 := fun w' => right_sto_calls (n.2 : Int) w' (by omega) (by have := hn.2; omega)
  obtain ⟨kl, hkl⟩ := keyOf_nm n hn
  have d1 : decide ((x.len : Int) < 1) = false := decide_eq_false (by omega)
  have d1' : ¬ (x.len : Int) < 1 := by omega
  have d2 : decide (1048576 < (x.len : Int)) = false := decide_eq_false (by omega)
  have d2' : ¬ 1048576 < (x.len : Int) := by omega
  have d3 : decide (1048576 < x.len) = false := decide_eq_false (by omega)
  have d4 : decide (x.len < 1) = false := decide_eq_false (by omega)
  go_enter Tryz.func80, Tryz.ntmps80
  go_wp2_with (first
    | (go_at_call 79; refine NC.mono ?_; rintro e w2 ⟨A2, c2, he, rv2, B2, nw2⟩; obtain rfl : e = .returned (.tuple #[.slice A2 5 c2, .bool true]) := he; obtain ⟨g, off, rfl, hg, hc⟩ := rv2 (by simp [cI, Slot.nums]); have e0 : w2.cell? ⟨g, off, none⟩ = some (.int .i64 (n.1 : Int)) := hc 0 _ rfl; have e1 : w2.cell? ⟨g, off + 1, none⟩ = some (.int .i64 (n.2 : Int)) := hc 1 _ rfl; have e2 : w2.cell? ⟨g, off + 2, none⟩ = some (.int .i64 (x.at_ : Int)) := hc 2 _ rfl; have e3 : w2.cell? ⟨g, off + 3, none⟩ = some (.int .i64 (x.len : Int)) := hc 3 _ rfl; have e4 : w2.cell? ⟨g, off + 4, none⟩ = some (.int .i64 (x.mark : Int)) := hc 4 _ rfl)
    | (go_at_call 56; first | (refine (RC0 _).mono ?_; rintro e w3 ⟨rfl, rfl⟩) | (refine (RC1 _).mono ?_; rintro e w3 ⟨rfl, rfl⟩)))
  have h2 := h.below B2
  have c5 := h2.bx.at_ (i := 5) (v := .map (some σ.M)) rfl
  have SC := slot_calls σ s x.at_ x.len x.mark (by omega) w2.drew base (h2.below (Below.refl _ _).drew)
  have hgM : g ≠ σ.M := fun e => by have := nw2 g off rfl; have := h.sl.lt; omega
  have hBM : σ.B ≠ σ.M := fun e => absurd (h.ap .box .slices σ.B rfl e) (by decide)
  have f0 : w2.cell? ⟨σ.B, 5, none⟩ = some (.map (some σ.M)) ∧ w2.cell? ⟨g, off, none⟩ = some (.int .i64 (n.1 : Int)) ∧ w2.cell? ⟨g, off + 1, none⟩ = some (.int .i64 (n.2 : Int)) ∧ w2.cell? ⟨g, off + 2, none⟩ = some (.int .i64 (x.at_ : Int)) ∧ w2.cell? ⟨g, off + 3, none⟩ = some (.int .i64 (x.len : Int)) ∧ w2.cell? ⟨g, off + 4, none⟩ = some (.int .i64 (x.mark : Int)) := ⟨c5, e0, e1, e2, e3, e4⟩
  have f2 : w2.drew.cell? ⟨σ.B, 5, none⟩ = some (.map (some σ.M)) ∧ w2.drew.cell? ⟨g, off, none⟩ = some (.int .i64 (n.1 : Int)) ∧ w2.drew.cell? ⟨g, off + 1, none⟩ = some (.int .i64 (n.2 : Int)) ∧ w2.drew.cell? ⟨g, off + 2, none⟩ = some (.int .i64 (x.at_ : Int)) ∧ w2.drew.cell? ⟨g, off + 3, none⟩ = some (.int .i64 (x.len : Int)) ∧ w2.drew.cell? ⟨g, off + 4, none⟩ = some (.int .i64 (x.mark : Int)) := f0
  have hmn : σ.mn < 9223372036854775807 := by omega
  clear hc NC RC0 RC1 c5 e0 e1 e2 e3 e4
  go_region_held (fun wq => wq.cell? ⟨σ.B, 5, none⟩ = some (.map (some σ.M)) ∧ wq.cell? ⟨g, off, none⟩ = some (.int .i64 (n.1 : Int)) ∧ wq.cell? ⟨g, off + 1, none⟩ = some (.int .i64 (n.2 : Int)) ∧ wq.cell? ⟨g, off + 2, none⟩ = some (.int .i64 (x.at_ : Int)) ∧ wq.cell? ⟨g, off + 3, none⟩ = some (.int .i64 (x.len : Int)) ∧ wq.cell? ⟨g, off + 4, none⟩ = some (.int .i64 (x.mark : Int)))
    (first | (with_reducible exact f0) | (with_reducible exact f2) | (with_reducible exact f3) | (with_reducible exact f4))
    (first | (go_at_call 125; refine SC.mono ?_; rintro e w3 ⟨rfl, B3⟩; replace B3 : Below w2.heap.size w2 w3 := ⟨B3.os, B3.tape, B3.output, B3.size, B3.block⟩; have f3 : w3.cell? ⟨σ.B, 5, none⟩ = some (.map (some σ.M)) ∧ w3.cell? ⟨g, off, none⟩ = some (.int .i64 (n.1 : Int)) ∧ w3.cell? ⟨g, off + 1, none⟩ = some (.int .i64 (n.2 : Int)) ∧ w3.cell? ⟨g, off + 2, none⟩ = some (.int .i64 (x.at_ : Int)) ∧ w3.cell? ⟨g, off + 3, none⟩ = some (.int .i64 (x.len : Int)) ∧ w3.cell? ⟨g, off + 4, none⟩ = some (.int .i64 (x.mark : Int)) := ⟨cell_bel B3 f0.1, cell_bel B3 f0.2.1, cell_bel B3 f0.2.2.1, cell_bel B3 f0.2.2.2.1, cell_bel B3 f0.2.2.2.2.1, cell_bel B3 f0.2.2.2.2.2⟩; obtain ⟨w4, hup, hM4, gr4⟩ := MapV.update (t := 95) (E := 112) (h2.below B3).sl nmKeyed Tryz.underlying95 hmn (slotV ⟨x.at_, x.len, x.mark⟩) hkl; unfold nmV at hup; have f4 : w4.cell? ⟨σ.B, 5, none⟩ = some (.map (some σ.M)) ∧ w4.cell? ⟨g, off, none⟩ = some (.int .i64 (n.1 : Int)) ∧ w4.cell? ⟨g, off + 1, none⟩ = some (.int .i64 (n.2 : Int)) ∧ w4.cell? ⟨g, off + 2, none⟩ = some (.int .i64 (x.at_ : Int)) ∧ w4.cell? ⟨g, off + 3, none⟩ = some (.int .i64 (x.len : Int)) ∧ w4.cell? ⟨g, off + 4, none⟩ = some (.int .i64 (x.mark : Int)) := ⟨cell_grown gr4 hBM f3.1, cell_grown gr4 hgM f3.2.1, cell_grown gr4 hgM f3.2.2.1, cell_grown gr4 hgM f3.2.2.2.1, cell_grown gr4 hgM f3.2.2.2.2.1, cell_grown gr4 hgM f3.2.2.2.2.2⟩))
  have e4 : setM (encS s.st.sl) (nmV n) (some (slotV x)) = encS (upd s.st.sl n (some x)) := encS_set s.st.sl n (some x)
  replace hM4 : MapV w4 40 σ.M _ (setM (encS s.st.sl) (nmV n) (some (slotV x))) := hM4
  rw [e4] at hM4
  have B4 := B2.trans (B3.mono B2.size)
  have HF : Hid (RetHeed w base σ s (.put n x) (.returned (.tuple #[])) w4) :=
    ⟨rfl, ((h.below B4).slices (f := upd s.st.sl n (some x)) (many := s.many + 1) (by split <;> omega) hM4 gr4).after B4⟩
  clear hM4 gr4 e4 hup
  go_end0
  exact HF.out
set_option maxRecDepth 100000 in
set_option maxHeartbeats 1600000 in
theorem heed_put (σ : StoL) (s : SP) (n : Nm) (x : Slot) (hn : okN n) (hx : okS x) (h1 : 1 ≤ x.len) (h4 : x.len ≤ 4) (A : Option Addr) (c : Nat) (w : World) (base : Nat) (h : StoOK w base σ s) (hG : Glob w base) (hR : RVF w (fun _ => False) A (cB (numsT (x.nums n)))) (hm : s.many ≤ 1000) :
    Calls Tryz.prog 32 #[.pointer (some ⟨σ.B, 0, none⟩), .agg #[.int .u8 83, .slice A (numsT (x.nums n)).length c]] w (RetHeed w base σ s (.put n x)) := by
  obtain ⟨l, hl⟩ : ∃ l, l = numsT (x.nums n) := ⟨_, rfl⟩
  rw [← hl] at hR ⊢
  have B1 : Below w.heap.size w (w.alloc (.cells #[.int .u8 83, .slice A l.length c] 107)) := (Below.refl _ _).alloc (Nat.le_refl _) _
  have k1 := Blk.new w 107 #[.int .u8 83, .slice A l.length c]
  have hh1 := h.below B1
  have hv := run_str (w.alloc (.cells #[.int .u8 83, .slice A l.length c] 107)) _ _ _ Tryz.underlying42 Tryz.underlying5 Tryz.underlying9 A l l.length c (RVF.rv hR |>.below B1) rfl
  have r0 := k1.at_ (i := 0) rfl
  have r1 := k1.at_ (i := 1) rfl
  have HC := heedSlice_calls σ s n x hn hx h1 h4 (w.alloc (.cells #[.int .u8 83, .slice A l.length c] 107)) base hh1 (hG.bel B1 h.base_le) hm
  rw [← hl] at HC
  clear hl
  go_enter Tryz.func32, Tryz.ntmps32
  go_wp2_with (go_at_call 80; refine HC.mono ?_; rintro e w2 ⟨rfl, N2⟩)
  have HF : Hid (RetHeed w base σ s (.put n x) (.returned (.tuple #[])) w2) := ⟨rfl, N2.after B1⟩
  clear N2
  go_end0
  exact HF.out
/-- An act's record is heeded. -/
theorem heed_calls (σ : StoL) (s : SP) (a : StoreP.Act) (ha : a.ok) (r : RecR) (hr : r.abs = a.toRec) (w : World) (base : Nat) (h : StoOK w base σ s) (hG : Glob w base) (hk : RecOK w (fun _ => False) r) (hm : s.many ≤ 1000) :
    Calls Tryz.prog 32 #[.pointer (some ⟨σ.B, 0, none⟩), .agg #[.int .u8 (r.kind.toNat : Int), .slice r.A r.body.length r.cap]] w (RetHeed w base σ s a) := by
  obtain ⟨rk, rA, rc, rb⟩ := r
  have e1 : rk = a.toRec.kind := congrArg Rec.kind hr
  have e2 : rb = a.toRec.body := congrArg Rec.body hr
  subst e1 e2
  have hR := hk.rd
  cases a with
  | note v t => exact heed_note σ s v t ha.1 (by have := ha.2; omega) rA rc w base h hG hR hm
  | mark t => exact heed_mark σ s t (by have : t.length ≤ 109 := ha; omega) rA rc w base h hR hm
  | drop n => exact heed_drop σ s n ha rA rc w base h hG hR hm
  | put n x =>
    obtain ⟨h1, h2, h3, h4, h5, h6⟩ := ha
    exact heed_put σ s n x h1 ⟨by omega, by omega, h6⟩ h4 h5 rA rc w base h hG hR hm
end Go.Proofs.YtendnkklbeiegaaGreatDoor
