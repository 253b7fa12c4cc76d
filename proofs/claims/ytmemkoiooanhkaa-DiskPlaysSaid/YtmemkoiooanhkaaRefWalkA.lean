/-
  The walks of the document's disk: last, Read.
-/
import Derived.Test.YtmemkoiooanhkaaRefMem
namespace Go.Proofs.Ytmemkoiooanhkaa
open Go.RowKit DiskP

def lastI {α : Type} (ws : List (Nat × α)) (n : Nat) : Int := match lastIdx ws n with
  | some i => (i : Int)
  | none => -1
theorem lastI_snoc {α : Type} (ws : List (Nat × α)) (x : Nat × α) (n : Nat) : lastI (ws ++ [x]) n = if x.1 = n then (ws.length : Int) else lastI ws n := by
  unfold lastI
  rw [lastIdx_snoc]
  by_cases h : x.1 = n
  · rw [if_pos h, if_pos h]
  · rw [if_neg h, if_neg h]
/-- The three cells of a row's write. -/
theorem row_cells {w : World} {b off : Nat} {W : List WR} (hc : ∀ j v, (rC W)[j]? = some v → w.cell? ⟨b, off + j, none⟩ = some v) {k : Nat} {r : WR} (hr : W[k]? = some r) :
    w.cell? ⟨b, off + k * 3, none⟩ = some (.int .i64 r.n) ∧ w.cell? ⟨b, off + k * 3 + 1, none⟩ = some (.slice r.A r.len r.cap) ∧ w.cell? ⟨b, off + k * 3 + 2, none⟩ = some (.bool r.rot) := by
  refine ⟨hc (k * 3 + 0) _ (by rw [rC_get _ _ _ (by omega), hr]; rfl), ?_, ?_⟩
  · rw [Nat.add_assoc]; exact hc (k * 3 + 1) _ (by rw [rC_get _ _ _ (by omega), hr]; rfl)
  · rw [Nat.add_assoc]; exact hc (k * 3 + 2) _ (by rw [rC_get _ _ _ (by omega), hr]; rfl)
theorem RVF.row {w : World} {F : Nat → Prop} {A : Option Addr} {W : List WR} (h : RVF w F A (rC W)) {k : Nat} {r : WR} (hr : W[k]? = some r) :
    ∃ b off, A = some ⟨b, off, none⟩ ∧ b < w.heap.size ∧ ¬ F b ∧ ∀ w', Below w.heap.size w w' → 
    w'.cell? ⟨b, off + k * 3, none⟩ = some (.int .i64 r.n) ∧ w'.cell? ⟨b, off + k * 3 + 1, none⟩ = some (.slice r.A r.len r.cap) ∧ w'.cell? ⟨b, off + k * 3 + 2, none⟩ = some (.bool r.rot) := by
  obtain ⟨b, off, e, h1, h2, h3⟩ := h (by
    intro e
    have := rC_len W
    rw [e] at this
    have : W.length = 0 := by simp only [List.length_nil] at this; omega
    rw [List.getElem?_eq_none (by omega)] at hr
    cases hr)
  refine ⟨b, off, e, h1, h2, fun w' hb => ?_⟩
  exact row_cells (fun j v hj => (hb.cell (p := ⟨b, off + j, none⟩) h1).trans (h3 j v hj)) hr

set_option maxHeartbeats 400000 in
theorem last_calls (m : Ref) (d : Dsk) (F : Nat → Prop) (n : Nat) (w : World) (h : RefOK w F m d) (hw : d.wait.length ≤ 1000000000) :
    Calls Try.prog 31 #[m.val d.size d.off, .int .i64 (n : Int)] w fun e w' => e = .returned (.int .i64 (lastI d.wait n)) ∧ Below w.heap.size w w' := by
  obtain ⟨AL, kL, L, AW, kW, W⟩ := m
  have hwr : RVF w F AW (rC W) := h.wr
  have hwo : WaitOK w F d.size W d.wait := h.wo
  have hl := hwo.len
  have hW : W.length ≤ 1000000000 := by omega
  have HL := Lib.hid hl
  clear hl
  unfold Ref.val
  go_enter Try.func31, Try.ntmps31
  go_wp2
  go_loopw [5, 6, 7, 11] (fun o _ _ i wr => ∃ k : Nat, k ≤ W.length ∧ i = .int .i64 k ∧ o = .int .i64 (lastI (d.wait.take k) n) ∧ Below w.heap.size w wr) (fun _ _ _ i _ => W.length - (intOf i).toNat)
  case atStart => exact ⟨0, by omega, rfl, rfl, (Below.refl _ _).alloc (Nat.le_refl _) _⟩
  case round =>
    obtain ⟨k, hk, rfl, rfl, bel⟩ := hrel
    by_cases hlt : k < W.length
    · have hr : W[k]? = some W[k] := List.getElem?_eq_getElem hlt
      have hx : d.wait[k]? = some (d.wait[k]'(by rw [← HL.out]; exact hlt)) := List.getElem?_eq_getElem _
      generalize W[k] = r at hr
      generalize hxe : d.wait[k]'(by rw [← HL.out]; exact hlt) = x at hx
      have HS : Hid (lastI (d.wait.take (k + 1)) n = if x.1 = n then (k : Int) else lastI (d.wait.take k) n) := by
        show _ = _
        rw [List.take_succ_eq_append_getElem (by rw [← HL.out]; exact hlt), hxe, lastI_snoc]
        have : (d.wait.take k).length = k := by rw [List.length_take, ← HL.out]; omega
        rw [this]
      obtain ⟨hn, _⟩ := hwo.at_ k r x hr hx
      obtain ⟨b, off, rfl, hb, _, hc⟩ := hwr.row hr
      obtain ⟨q0, q1, q2⟩ := hc wr bel
      rw [hn] at q0
      clear hxe hn hc hr hx
      have bb := bel.size
      have hdec : decide ((k : Int) < (W.length : Int)) = true := by simp; omega
      by_cases hxn : x.1 = n
      · have HS2 : Hid (lastI (d.wait.take (k + 1)) n = (k : Int)) := by show _ = _; rw [HS.out, if_pos hxn]
        rw [hxn] at q0
        clear HS hxn
        go_wp2
        go_roundw
        case rel => exact ⟨k + 1, by omega, by go_num, by rw [HS2.out], bel.alloc bb _⟩
        case measure => simp [intOf]; omega
      · have e1 : ((x.1 : Int) == (n : Int)) = false := by simp; omega
        go_wp2
        go_roundw
        case rel => exact ⟨k + 1, by omega, by go_num, by rw [HS.out, if_neg hxn], bel.alloc bb _⟩
        case measure => simp [intOf]; omega
    · obtain rfl : k = W.length := by omega
      have HT : Hid (d.wait.take W.length = d.wait) := by show _ = _; rw [HL.out]; simp
      go_wp2
      go_ret
      exact ⟨by rw [HT.out]; rfl, bel⟩

theorem told_some {d : Dsk} {n i : Nat} (hn : n < d.last.length) (hi : lastIdx d.wait n = some i) {y : Sect} (hy : d.wait[i]? = some (n, y)) : d.told[n]? = some y := by
  unfold Dsk.told
  rw [applyW_get _ _ _ hn, lastW_idx, hi]
  simp [hy]
theorem told_none {d : Dsk} {n : Nat} (hn : n < d.last.length) (hi : lastIdx d.wait n = none) : d.told[n]? = some d.last[n] := by
  unfold Dsk.told
  rw [applyW_get _ _ _ hn, lastW_idx, hi]
  simp
/-- It gives the bytes of a sector, or why there are none. -/
def RetRR (w : World) (F : Nat → Prop) (d : Dsk) (n : Int) (e : Ending) (w' : World) : Prop :=
  ∃ A cap, e = .returned (.tuple #[.slice A (d.readL n).length cap, .int .i64 (d.readE n)]) ∧ RVF w' F A (cB (d.readL n)) ∧ Below w.heap.size w w'
theorem RetRR.no {w w' : World} {F : Nat → Prop} {d : Dsk} {n : Int} {e : Ending} (k : Int) (hk : k ≠ 0) (he : e = .returned (.tuple #[.slice none 0 0, .int .i64 k])) (hr : d.readE n = k) (hb : Below w.heap.size w w') : RetRR w F d n e w' := by
  have hl : d.readL n = [] := by unfold DiskP.Dsk.readL; rw [hr, if_neg hk]
  exact ⟨none, 0, by rw [hr, hl]; exact he, by rw [hl]; exact RVF.nil, hb⟩
theorem readE_at {d : Dsk} {n : Nat} {s : Sect} (hh : d.has n = true) (ho : d.off = false) (ht : d.told[n]? = some s) : d.readE n = if s.bytes.isNone then 9 else 0 := by
  unfold Dsk.readE
  rw [hh, if_neg (by decide), ho, if_neg (by decide), Int.toNat_natCast, ht]
theorem RetRR.at_ {w w' : World} {F : Nat → Prop} {d : Dsk} {n : Nat} {e : Ending} {r : WR} {s : Sect} (hh : d.has n = true) (ho : d.off = false) (ht : d.told[n]? = some s) (hr : WrOK w F d.size r s)
    (he : e = .returned (.tuple #[.slice r.A r.len r.cap, .int .i64 (if s.bytes.isNone then 9 else 0)])) (hb : Below w.heap.size w w') : RetRR w F d n e w' := by
  have hE := readE_at hh ho ht
  cases hs : s.bytes with
  | none =>
    rw [hs] at he hE
    have h2 := hr.2
    rw [hs] at h2
    obtain ⟨h3, h4, h5⟩ := h2
    exact RetRR.no 9 (by decide) (by rw [he, h3, h4, h5]; rfl) hE hb
  | some l =>
    rw [hs] at he hE
    have h2 := hr.2
    rw [hs] at h2
    obtain ⟨h3, h4, h5⟩ := h2
    have hE0 : d.readE n = 0 := hE
    have hl : d.readL n = l := by
      unfold DiskP.Dsk.readL
      rw [hE0, if_pos rfl]
      unfold Dsk.readB
      rw [Int.toNat_natCast, ht]
      simp [hs]
    exact ⟨r.A, r.cap, by rw [hl, hE0, h3, ← h4]; exact he, by rw [hl]; exact h5.below hb, hb⟩
theorem rread_no (m : Ref) (d : Dsk) (F : Nat → Prop) (n : Int) (w : World) (h : RefOK w F m d) (hno : d.has n = false ∨ d.off = true) :
    Calls Try.prog 29 #[m.val d.size d.off, .int .i64 n] w (RetRR w F d n) := by
  obtain ⟨AL, kL, L, AW, kW, W⟩ := m
  have hl : L.length = d.last.length := h.lo.len
  have hl2 := h.l2
  have hb : ∀ o : Obj, Below w.heap.size w (w.alloc o) := fun o => (Below.refl _ _).alloc (Nat.le_refl _) _
  cases hh : d.has n
  · have hE : d.readE n = 1 := by unfold Dsk.readE; rw [hh]; rfl
    have HE := Lib.hid hE
    clear hE hno
    by_cases h0 : n < 0
    · have d0 : decide (n < 0) = true := by simpa using h0
      have HH := Lib.hid hh
      have HL := Lib.hid hl
      clear hh hl h
      unfold Ref.val
      go_enter Try.func29, Try.ntmps29
      go_wp2
      go_ret2
      exact RetRR.no 1 (by decide) rfl HE.out (hb _)
    · have d0 : decide (n < 0) = false := by simpa using h0
      have d1 : decide ((L.length : Int) ≤ n) = true := by
        simp [Dsk.has] at hh
        have := hh (by omega)
        simp; omega
      have HH := Lib.hid hh
      have HL := Lib.hid hl
      clear hh hl h
      unfold Ref.val
      go_enter Try.func29, Try.ntmps29
      go_wp2
      go_ret2
      exact RetRR.no 1 (by decide) rfl HE.out (hb _)
  · have ho : d.off = true := by rcases hno with h | h; rw [hh] at h; cases h; exact h
    have hE : d.readE n = 10 := by unfold Dsk.readE; rw [hh, ho]; rfl
    have hr : 0 ≤ n ∧ n < d.last.length := by simpa [Dsk.has] using hh
    have d0 : decide (n < 0) = false := by simp; omega
    have d1 : decide ((L.length : Int) ≤ n) = false := by simp; omega
    rw [ho]
    have HE := Lib.hid hE
    have HH := Lib.hid hh
    have HL := Lib.hid hl
    clear hh hl h hE hno ho
    unfold Ref.val
    go_enter Try.func29, Try.ntmps29
    go_wp2
    go_ret2
    exact RetRR.no 10 (by decide) rfl HE.out (hb _)
theorem eql_nil (w : World) : (binOp .eql 35 (.slice none 0 0) (.slice none 0 0)).run Try.prog w = .ok (.bool true) w := by kernel_rfl
theorem eql_some (w : World) (a : Addr) (n c : Nat) : (binOp .eql 35 (.slice (some a) n c) (.slice none 0 0)).run Try.prog w = .ok (.bool false) w := by kernel_rfl
set_option maxHeartbeats 800000 in
theorem rread_yes (m : Ref) (d : Dsk) (F : Nat → Prop) (n : Nat) (w : World) (h : RefOK w F m d) (hw : d.wait.length ≤ 1000000000) (hn : n < d.last.length) (ho : d.off = false) :
    Calls Try.prog 29 #[m.val d.size d.off, .int .i64 (n : Int)] w (RetRR w F d n) := by
  have hLC := last_calls m d F n
  rw [ho] at hLC ⊢
  have hh : d.has n = true := by simp [Dsk.has]; omega
  obtain ⟨AL, kL, L, AW, kW, W⟩ := m
  have hlr : RVF w F AL (rC L) := h.lr
  have hwr : RVF w F AW (rC W) := h.wr
  have hlen : L.length = d.last.length := h.lo.len
  have hl2 := h.l2
  obtain ⟨q, hq⟩ : ∃ q, L[n]? = some q := ⟨L[n]'(by omega), List.getElem?_eq_getElem _⟩
  obtain ⟨b, off, rfl, hb, _, hc⟩ := hlr.row hq
  have hqo := h.lo.at_ n q _ hq (List.getElem?_eq_getElem hn)
  obtain ⟨q0, q1, q2⟩ := hc w (Below.refl _ _)
  have d0 : decide ((n : Int) < 0) = false := by simp
  have d1 : decide ((L.length : Int) ≤ (n : Int)) = false := by simp; omega
  have hnL : n < L.length := by omega
  have HH := Lib.hid hh
  have HL := Lib.hid hlen
  have HO := Lib.hid ho
  have HQ := Lib.hid hq
  have hb1 : ∀ o : Obj, Below w.heap.size w (w.alloc o) := fun o => (Below.refl _ _).alloc (Nat.le_refl _) _
  cases hi : lastIdx d.wait n with
  | none =>
    have hI : lastI d.wait n = -1 := by unfold lastI; rw [hi]
    have HT := Lib.hid (told_none hn hi)
    clear hlen hh ho hq hi hc
    unfold Ref.val at hLC ⊢
    go_enter Try.func29, Try.ntmps29
    go_wp2_with fail
    refine (hLC _ (h.below (hb1 _)) hw).mono ?_
    rintro e w1 ⟨rfl, b1⟩
    rw [hI]
    have HI := Lib.hid hI
    clear hI
    have bel := (hb1 (.cells #[.int .i64 (d.size : Int), .slice (some ⟨b, off, none⟩) L.length kL, .slice AW W.length kW, .bool false] 51)).trans (b1.mono (by simp))
    cases hs : (d.last[n]).bytes with
    | none =>
      have h2 := hqo.2
      rw [hs] at h2
      obtain ⟨h3, h4, h5⟩ := h2
      rw [h3, h4, h5]
      have HS := Lib.hid hs
      have H3 := Lib.hid h3
      have H4 := Lib.hid h4
      have H5 := Lib.hid h5
      have he := eql_nil
      clear hs h3 h4 h5
      go_wp2
      go_ret2
      exact RetRR.at_ HH.out HO.out HT.out hqo (by rw [H3.out, H4.out, H5.out, HS.out]; rfl) bel
    | some l =>
      have h2 := hqo.2
      rw [hs] at h2
      obtain ⟨h3, h4, h5⟩ := h2
      obtain ⟨g, og, h6, _⟩ := h5 (by intro e; have e1 := cB_len l; rw [e, h3] at e1; have := h.s1; have e2 : (0 : Nat) = d.size := e1; omega)
      rw [h6]
      have HS := Lib.hid hs
      have H6 := Lib.hid h6
      have he := eql_some
      clear hs h3 h4 h5 h6
      go_wp2
      go_ret2
      exact RetRR.at_ HH.out HO.out HT.out hqo (by rw [H6.out, HS.out]; rfl) bel
  | some i =>
    have hI : lastI d.wait n = (i : Int) := by unfold lastI; rw [hi]
    obtain ⟨s, hs⟩ := lastIdx_lt hi
    have HT := Lib.hid (told_some hn hi hs)
    have hwl : W.length = d.wait.length := h.wo.len
    have hil : i < d.wait.length := (List.getElem?_eq_some_iff.1 hs).1
    obtain ⟨p, hp⟩ : ∃ p, W[i]? = some p := ⟨W[i]'(by omega), List.getElem?_eq_getElem _⟩
    obtain ⟨_, hpo⟩ := h.wo.at_ i p _ hp hs
    obtain ⟨b', off', rfl, hb', _, hc'⟩ := hwr.row hp
    have hiW : i < W.length := by omega
    have HW := Lib.hid hwl
    have HP := Lib.hid hp
    have HS0 := Lib.hid hs
    clear hlen hh ho hq hi hc hwl hp hs
    unfold Ref.val at hLC ⊢
    go_enter Try.func29, Try.ntmps29
    go_wp2_with fail
    refine (hLC _ (h.below (hb1 _)) hw).mono ?_
    rintro e w1 ⟨rfl, b1⟩
    rw [hI]
    have HI := Lib.hid hI
    clear hI
    have bel := (hb1 (.cells #[.int .i64 (d.size : Int), .slice (some ⟨b, off, none⟩) L.length kL, .slice (some ⟨b', off', none⟩) W.length kW, .bool false] 51)).trans (b1.mono (by simp))
    have hbk : Blk w1 w.heap.size 51 #[.int .i64 (d.size : Int), .slice (some ⟨b, off, none⟩) L.length kL, .slice (some ⟨b', off', none⟩) W.length kW, .bool false] := (Blk.new w _ _).below b1 (by simp)
    have c2 : w1.cell? ⟨w.heap.size, 2, none⟩ = some (.slice (some ⟨b', off', none⟩) W.length kW) := hbk.at_ rfl
    obtain ⟨p0, p1, p2⟩ := hc' w1 bel
    clear hc'
    cases hs : s.bytes with
    | none =>
      have h2 := hpo.2
      rw [hs] at h2
      obtain ⟨h3, h4, h5⟩ := h2
      rw [h3, h4, h5] at p1
      have HS := Lib.hid hs
      have H3 := Lib.hid h3
      have H4 := Lib.hid h4
      have H5 := Lib.hid h5
      have he := eql_nil
      clear hs h3 h4 h5
      go_wp2
      go_ret2
      exact RetRR.at_ HH.out HO.out HT.out hpo (by rw [H3.out, H4.out, H5.out, HS.out]; rfl) bel
    | some l =>
      have h2 := hpo.2
      rw [hs] at h2
      obtain ⟨h3, h4, h5⟩ := h2
      obtain ⟨g, og, h6, _⟩ := h5 (by intro e; have e1 := cB_len l; rw [e, h3] at e1; have := h.s1; have e2 : (0 : Nat) = d.size := e1; omega)
      rw [h6] at p1
      have HS := Lib.hid hs
      have H6 := Lib.hid h6
      have he := eql_some
      clear hs h3 h4 h5 h6
      go_wp2
      go_ret2
      exact RetRR.at_ HH.out HO.out HT.out hpo (by rw [H6.out, HS.out]; rfl) bel
theorem rread_calls (m : Ref) (d : Dsk) (F : Nat → Prop) (n : Int) (w : World) (h : RefOK w F m d) (hw : d.wait.length ≤ 1000000000) :
    Calls Try.prog 29 #[m.val d.size d.off, .int .i64 n] w (RetRR w F d n) := by
  by_cases hno : d.has n = false ∨ d.off = true
  · exact rread_no m d F n w h hno
  · simp only [not_or, Bool.not_eq_false, Bool.not_eq_true] at hno
    obtain ⟨h0, h1⟩ : 0 ≤ n ∧ n < d.last.length := by simpa [Dsk.has] using hno.1
    obtain ⟨n, rfl⟩ := Int.eq_ofNat_of_zero_le h0
    exact rread_yes m d F n w h hw (by omega) hno.2
end Go.Proofs.Ytmemkoiooanhkaa
