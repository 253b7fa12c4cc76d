/-
  The walk of a log's Forget.
-/
import Derived.Test.YtdcjljlppeighaaDoorPurgeAdd
import Derived.Test.YtdcjljlppeighaaDoorPurgeNewest
namespace Go.Proofs.YtdcjljlppeighaaDoor
open Go.RowKit PurgeP

theorem lines_tail (g n c k : Nat) (hk : k ≤ n) (hn : n ≤ c) : ∃ A, (∀ w : World, (Instr.slice 37 (.slice (some ⟨g, 0, none⟩) n c) (some (.int .i64 (k : Int))) none none).run Tryd.prog w = .ok (.slice A (n - k) (c - k)) w) ∧ (k < n → A = some ⟨g, k * 3, none⟩) := by
  have hu := Tryd.underlying37
  have he : Tryd.prog.elem 37 = 54 := by kernel_rfl
  have hz : ∀ w : World, (sizeOf 54).run Tryd.prog w = .ok 3 w := fun w => by kernel_rfl
  refine ⟨if c - k = 0 then some ⟨g, 0, none⟩ else some ((⟨g, 0, none⟩ : Addr).add (k * 3)), fun w => ?_, fun h => ?_⟩
  · have := run_slice_l (P := Tryd.prog) (w := w) 37 (some ⟨g, 0, none⟩) n c (by rw [he]; exact hu) .i64 (k : Int) (by omega) (by omega)
    rw [this, he, hz]
    simp only [Result.andThen_ok, sliced, Int.toNat_natCast]
    by_cases hkc : c - k = 0
    · rw [if_pos hkc, if_pos (by omega)]
    · rw [if_neg hkc, if_neg (by omega)]; rfl
  · rw [if_neg (by omega), add_zero_off]
theorem lC_dropRV {w : World} {g n c k : Nat} {base : Nat} {t : TypeId} {ls : List LnR} (h : w.ownsRow base t 3 (.slice (some ⟨g, 0, none⟩) n c) n (lC ls)) (hg : g < w.heap.size) {A : Option Addr} (hA : k < ls.length → A = some ⟨g, k * 3, none⟩) : RV w A (lC (ls.drop k)) := by
  intro hne
  have hlt : k < ls.length := by
    rcases Nat.lt_or_ge k ls.length with h1 | h1
    · exact h1
    · rw [List.drop_eq_nil_of_le h1] at hne; exact absurd rfl hne
  refine ⟨g, k * 3, hA hlt, hg, fun j v hj => ?_⟩
  rw [← lC_drop, List.getElem?_drop] at hj
  have hlen := (List.getElem?_eq_some_iff.1 hj).1
  rw [h.cellAt _ (by rw [← h.1]; exact hlen)]
  exact hj
theorem LogOK.cut {w w4 : World} {base : Nat} {X : Nat → Prop} {y : LogR} (h : LogOK w base X y) (hX : ∀ k, X k → k < w.heap.size) {v : Value} {upTo : Int} {k : Nat} (hk : y.floor + (k : Int) = upTo) (h0 : 1 ≤ k) (hkn : k ≤ y.ls.length)
    (own4 : w4.ownsRow base 54 3 v (y.ls.length - k) (lC (y.ls.drop k))) (gr : w.grownBy w4 none) (hv : v.ownBlock = none ∨ v.ownBlock = some w.heap.size) :
    NextL w base X y ⟨upTo, y.abs.ls.drop k⟩ ((w4.setCell ⟨y.D, 1, none⟩ v).setCell ⟨y.D, 0, none⟩ (.int .i64 upTo)) := by
  have hDw := h.dk.lt
  have hnD : v.ownBlock ≠ some y.D := by
    rcases hv with e | e <;> rw [e]
    · simp
    · intro e; injection e with e; omega
  have d4 : Blk w4 y.D 72 #[.int .i64 y.floor, y.v] := (gr.block y.D hDw (fun e => by cases e)).trans h.dk
  have foot4 : ∀ k, (k = y.D ∨ v.ownBlock = some k) → y.foot k ∨ w.heap.size ≤ k := by
    rintro k (rfl | hk)
    · exact .inl (.inl rfl)
    · rcases hv with e | e
      · rw [e] at hk; cases hk
      · rw [e] at hk; injection hk with hk; exact .inr (by omega)
  have K4 : Kept y.foot w w4 := (Kept.refl y.foot w).grown gr (fun k hk => by cases hk)
  have K5 : Kept y.foot w ((w4.setCell ⟨y.D, 1, none⟩ v).setCell ⟨y.D, 0, none⟩ (.int .i64 upTo)) := (K4.setCell (.inl (.inl rfl)) _).setCell (.inl (.inl rfl)) _
  have hfl : y.abs.floor = y.floor := rfl
  have habs : LogR.abs ⟨y.D, v, upTo, y.ls.drop k⟩ = y.abs.forS upTo := by
    have hn := h.ok.now_le
    have hf0 := h.ok.f0
    rw [hfl] at hf0 hn
    have hlen : y.abs.ls.length = y.ls.length := LogOK.abs_len
    unfold PLog.forS
    rw [if_neg (by unfold PLog.now; rw [hlen, hfl]; omega), if_pos (by rw [hfl]; omega), hfl, show (upTo - y.floor).toNat = k by omega]
    simp [LogR.abs]
  have habs2 : y.abs.forS upTo = ⟨upTo, y.abs.ls.drop k⟩ := by rw [← habs]; simp [LogR.abs]
  have D5 : Blk ((w4.setCell ⟨y.D, 1, none⟩ v).setCell ⟨y.D, 0, none⟩ (.int .i64 upTo)) y.D 72 #[.int .i64 upTo, v] := (d4.set_ 1 v).set_ 0 _
  refine ⟨⟨y.D, v, upTo, y.ls.drop k⟩, ⟨D5, ?_, ?_, h.bD, hnD, h.xD, ?_, ?_⟩, by rw [habs, habs2], rfl, K5, foot4⟩
  · simp only [List.length_drop]
    exact own_frame (own_frame own4 (fun k hk => heap_setCell_other _ _ _ _ (by intro e; exact hnD (by rw [hk]; exact congrArg some e)))) (fun k hk => heap_setCell_other _ _ _ _ (by intro e; exact hnD (by rw [hk]; exact congrArg some e)))
  · intro z hz
    have hz' := List.mem_of_mem_drop hz
    exact ⟨(h.ks z hz').rd.next (K5.mono fun _ _ hf => .inl hf) (fun k hk hf => by
        rcases hf with hf | hf
        · rcases foot4 k hf with h1 | h1
          · exact .inl h1
          · omega
        · exact .inr hf), (h.ks z hz').cap, (h.ks z hz').c63⟩
  · intro k hk
    rcases hv with e | e
    · rw [e] at hk; cases hk
    · rw [e] at hk; injection hk with hk
      intro hx
      have := hX k hx
      omega
  · rw [habs]; exact h.ok.forget upTo
def RetE (w : World) (base : Nat) (X : Nat → Prop) (y : LogR) (k : Int) (S : PLog) (e : Ending) (w' : World) : Prop := e = .returned (.int .i64 k) ∧ NextL w base X y S w'
theorem forget_arg (y : LogR) (upTo : Int) (w : World) (base : Nat) (X : Nat → Prop) (h : LogOK w base X y) (hu : upTo < 0 ∨ y.abs.now < upTo) :
    Calls Tryd.prog 26 #[.pointer (some ⟨y.D, 0, none⟩), .int .i64 upTo] w (RetE w base X y 1 y.abs) := by
  have NC := now_calls y w base X h
  have HE : Hid (∀ w', Below w.heap.size w w' → RetE w base X y 1 y.abs (.returned (.int .i64 1)) w') := fun w' hb => ⟨rfl, NextL.same_below h hb⟩
  by_cases h0 : upTo < 0
  · have d0 : decide (upTo < 0) = true := decide_eq_true h0
    clear h NC
    go_enter Tryd.func26, Tryd.ntmps26
    go_wp2
    go_ret
    exact HE.out _ (Below.refl _ _)
  · have d0 : decide (upTo < 0) = false := decide_eq_false h0
    have d1 : decide (y.abs.now < upTo) = true := decide_eq_true (by omega)
    generalize y.abs.now = N at *
    clear h
    go_enter Tryd.func26, Tryd.ntmps26
    go_wp2_with fail
    refine NC.mono ?_
    clear NC
    rintro e w1 ⟨rfl, q, rfl⟩
    go_wp2
    go_ret
    exact HE.out _ (drewN_below w q)
theorem forget_same (y : LogR) (upTo : Int) (w : World) (base : Nat) (X : Nat → Prop) (h : LogOK w base X y) (hu : 0 ≤ upTo) (hu2 : upTo ≤ y.abs.now) (hf : upTo ≤ y.floor) :
    Calls Tryd.prog 26 #[.pointer (some ⟨y.D, 0, none⟩), .int .i64 upTo] w (RetE w base X y 0 y.abs) := by
  have NC := now_calls y w base X h
  have HE : Hid (∀ w', Below w.heap.size w w' → RetE w base X y 0 y.abs (.returned (.int .i64 0)) w') := fun w' hb => ⟨rfl, NextL.same_below h hb⟩
  have c0 : w.cell? ⟨y.D, 0, none⟩ = some (.int .i64 y.floor) := h.dk.at_ rfl
  have d0 : decide (upTo < 0) = false := decide_eq_false (by omega)
  have d1 : decide (y.abs.now < upTo) = false := decide_eq_false (by omega)
  have d2 : decide (y.floor < upTo) = false := decide_eq_false (by omega)
  generalize y.abs.now = N at *
  clear h
  go_enter Tryd.func26, Tryd.ntmps26
  go_wp2_with fail
  refine NC.mono ?_
  clear NC
  rintro e w1 ⟨rfl, q, rfl⟩
  go_wp2
  go_ret
  exact HE.out _ (drewN_below w q)
set_option maxHeartbeats 1600000 in
set_option maxRecDepth 100000 in
theorem forget_yes (y : LogR) (upTo : Int) (w : World) (base : Nat) (X : Nat → Prop) (hX : ∀ k, X k → k < w.heap.size) (hbase : base ≤ w.heap.size) (h : LogOK w base X y) (k : Nat) (hk : y.floor + (k : Int) = upTo) (h0 : 1 ≤ k) (hkn : k ≤ y.ls.length) :
    Calls Tryd.prog 26 #[.pointer (some ⟨y.D, 0, none⟩), .int .i64 upTo] w (RetE w base X y 0 ⟨upTo, y.abs.ls.drop k⟩) := by
  have NC := now_calls y w base X h
  have hf0 : 0 ≤ y.floor := h.ok.f0
  have hnl := h.len_le
  have hnow : y.abs.now = y.floor + (y.ls.length : Int) := by unfold PLog.now; rw [LogOK.abs_len]; rfl
  have hnb := h.ok.now_le.2.1
  rw [hnow] at NC hnb
  clear hnow
  obtain ⟨gg, cg, hvg, hbg, hgl⟩ := row_blk h.rk (g0 := 0) (by omega)
  obtain ⟨_, _, hvf, hcn, _⟩ := own_form h.rk
  rw [hvg] at hvf
  injection hvf with hvf1 _ hvf3
  subst hvf3
  subst hvf1
  obtain ⟨A, SL, hA⟩ := lines_tail gg y.ls.length cg k hkn hcn
  have hd0 : decide (upTo < 0) = false := decide_eq_false (by omega)
  have hd1 : decide (y.floor + (y.ls.length : Int) < upTo) = false := decide_eq_false (by omega)
  have hd2 : decide (y.floor < upTo) = true := decide_eq_true (by omega)
  go_enter Tryd.func26, Tryd.ntmps26
  go_wp2_with fail
  refine NC.mono ?_
  clear NC
  rintro e w1 ⟨rfl, q, rfl⟩
  have b0 := drewN_below w q
  have hX1 : ∀ k, X k → k < (w.drewN q).heap.size := hX
  generalize w.drewN q = w1 at *
  have h1 := h.below b0
  have rk := h1.rk
  have dk := h1.dk
  rw [hvg] at rk dk
  have hgl1 : gg < w1.heap.size := by have := b0.size; omega
  have rv := lC_dropRV (k := k) rk hgl1 hA
  have c0 : w1.cell? ⟨y.D, 0, none⟩ = some (.int .i64 y.floor) := dk.at_ rfl
  have c1 : w1.cell? ⟨y.D, 1, none⟩ = some (.slice (some ⟨gg, 0, none⟩) y.ls.length cg) := dk.at_ rfl
  have hsub : upTo - y.floor = (k : Int) := by omega
  have hsubw : IntKind.i64.wrap (upTo - y.floor) = (k : Int) := by rw [IntKind.wrap_i64]; omega
  have hbs : base ≤ w1.heap.size := by have := b0.size; omega
  have hDl := dk.lt
  have HP : Hid (∀ (w4 : World) (v : Value), w4.ownsRow base 54 3 v (y.ls.length - k) (lC (y.ls.drop k)) → w1.drew.grownBy w4 (Value.slice none 0 0).ownBlock → (v.ownBlock = (Value.slice none 0 0).ownBlock ∨ v.ownBlock = some w1.heap.size) →
      RetE w base X y 0 ⟨upTo, y.abs.ls.drop k⟩ (.returned (.int .i64 0)) ((w4.setCell ⟨y.D, 1, none⟩ v).setCell ⟨y.D, 0, none⟩ (.int .i64 upTo))) :=
    fun w4 v o4 g4 hv4 => ⟨rfl, NextL.after b0 (LogOK.cut h1 hX1 hk h0 hkn o4 ⟨g4.os, g4.tape, g4.output, g4.size, g4.block⟩ hv4)⟩
  have hll : (lC (y.ls.drop k)).length = (y.ls.length - k) * 3 := by rw [lC_len, List.length_drop]
  have hu1 : 0 ≤ upTo := by omega
  have hu2 : upTo ≤ 1099511627776 := by omega
  have hfb : y.floor ≤ 1099511627776 := by omega
  clear h h1 hX hX1 rk hvg hA hk
  go_wp2_with fail
  clear hsub
  go_region_law ((refine step_append_rv (A := A) (m := y.ls.length - k) (c := cg - k) (v := .slice none 0 0) (n := 0) (base := base) (xs := []) el_line rfl (.const (.slice none 0 0)) (.tmp 30) rfl rfl (World.ownsRow_nil _ _ _ _) rfl hll rv.drew (lC_one _) (by unfold maxLen; omega) (by omega) hbs ?_; intro v4 w4 own4 gr4 hv4; (have own5 : w4.ownsRow base 54 3 v4 (y.ls.length - k) (lC (y.ls.drop k)) := by simpa using own4); (obtain ⟨A4, c4, hv4f, _, _⟩ := own_form own5); subst hv4f; have HF := Lib.hid (HP.out w4 _ own5 gr4 (by simpa using hv4)); have d4 : Blk w4 y.D 72 #[.int .i64 y.floor, .slice (some ⟨gg, 0, none⟩) y.ls.length cg] := (gr4.block y.D hDl (fun e => by cases e)).trans dk; have s1 : w4.cell? ⟨y.D, 1, none⟩ = some (.slice (some ⟨gg, 0, none⟩) y.ls.length cg) := d4.at_ rfl; have sf := d4.frozen 1; have s0 : w4.cell? ⟨y.D, 0, none⟩ = some (.int .i64 y.floor) := d4.at_ rfl; have sf0 := d4.frozen 0; clear d4 own4 own5 gr4 hv4))
  all_goals
    clear HP
    go_wp2
    go_ret
    exact HF.out
theorem forget_calls (y : LogR) (upTo : Int) (w : World) (base : Nat) (X : Nat → Prop) (hX : ∀ k, X k → k < w.heap.size) (hbase : base ≤ w.heap.size) (h : LogOK w base X y) :
    Calls Tryd.prog 26 #[.pointer (some ⟨y.D, 0, none⟩), .int .i64 upTo] w (RetE w base X y (y.abs.forE upTo) (y.abs.forS upTo)) := by
  have hfl : y.abs.floor = y.floor := rfl
  by_cases h1 : upTo < 0 ∨ y.abs.now < upTo
  · unfold PLog.forE PLog.forS
    rw [if_pos h1, if_pos h1]
    exact forget_arg y upTo w base X h h1
  · unfold PLog.forE PLog.forS
    rw [if_neg h1, if_neg h1]
    by_cases h2 : y.abs.floor < upTo
    · rw [if_pos h2]
      have hf0 := h.ok.f0
      have hlen : y.abs.ls.length = y.ls.length := LogOK.abs_len
      have hnow : y.abs.now = y.floor + (y.ls.length : Int) := by unfold PLog.now; rw [hlen]; rfl
      rw [hfl] at h2 hf0
      exact forget_yes y upTo w base X hX hbase h (upTo - y.abs.floor).toNat (by rw [hfl]; omega) (by rw [hfl]; omega) (by rw [hfl]; omega)
    · rw [if_neg h2]
      exact forget_same y upTo w base X h (by omega) (by omega) (by rw [hfl] at h2; omega)
end Go.Proofs.YtdcjljlppeighaaDoor
