/-
  The walks of the document's disk: Rot.
-/
import Derived.Test.YtmemkoiooanhkaaRefWalkE
namespace Go.Proofs.Ytmemkoiooanhkaa
open Go.RowKit DiskP

theorem rotE_no_arg {d : Dsk} {n bit : Int} (h : d.has n = false ∨ bit < 0 ∨ 8 * (d.size : Int) ≤ bit) : d.rotE n bit = 1 := by
  unfold Dsk.rotE
  cases hh : d.has n
  · rfl
  · rw [if_neg (by decide)]
    by_cases h1 : bit < 0
    · rw [if_pos h1]
    · rw [if_neg h1]
      have : 8 * (d.size : Int) ≤ bit := by rcases h with h | h | h; rw [hh] at h; cases h; exact absurd h h1; exact h
      rw [if_pos this]
theorem rotE_of {d : Dsk} {n : Int} {bit : Int} (hh : d.has n = true) (h1 : 0 ≤ bit) (h2 : bit < 8 * (d.size : Int)) : d.rotE n bit = if d.readE n = 0 then (match d.told[n.toNat]? with | some s => if s.rot then 11 else 0 | none => 1) else d.readE n := by
  unfold Dsk.rotE Dsk.readE
  have e1 : ¬ bit < 0 := by omega
  have e2 : ¬ 8 * (d.size : Int) ≤ bit := by omega
  rw [hh, if_neg (by decide), if_neg e1, if_neg e2]
  cases d.off
  · cases d.told[n.toNat]? with
    | none => simp
    | some s => cases hb : s.bytes <;> simp [hb]
  · simp
set_option maxHeartbeats 800000 in
theorem rrot_no (m : Ref) (d : Dsk) (F : Nat → Prop) (n bit : Int) (w : World) (h : RefOK w F m d) (hno : d.has n = false ∨ bit < 0 ∨ 8 * (d.size : Int) ≤ bit) :
    Calls Try.prog 28 #[m.val d.size d.off, .int .i64 n, .int .i64 bit] w (RetRef2 w F (d.rotE n bit) (d.rotS n bit)) := by
  have hE := rotE_no_arg hno
  have hS : d.rotS n bit = d := by unfold DiskP.Dsk.rotS; rw [hE]; rfl
  rw [hE, hS]
  obtain ⟨AL, kL, L, AW, kW, W⟩ := m
  have hlen : L.length = d.last.length := h.lo.len
  have hl2 := h.l2
  have hs2 := h.s2
  have hb : ∀ o o' : Obj, Below w.heap.size w ((w.alloc o).alloc o') := fun o o' => ((Below.refl _ _).alloc (Nat.le_refl _) _).alloc (by simp) _
  have hend : ∀ (o o' : Obj), RetRef2 w F 1 d (.returned (.tuple #[Ref.val ⟨AL, kL, L, AW, kW, W⟩ d.size d.off, .int .i64 1])) ((w.alloc o).alloc o') :=
    fun o o' => ⟨⟨AL, kL, L, AW, kW, W⟩, rfl, h.below (hb _ _), hb _ _⟩
  have HEND := Lib.hid hend
  have hh2 : d.has n = false → 0 ≤ n → (L.length : Int) ≤ n := by rw [hlen]; simp [Dsk.has]
  have hh3 : d.has n = true → 0 ≤ n ∧ n < (L.length : Int) := by rw [hlen]; simp [Dsk.has]
  clear hE hS hend h hlen
  by_cases h0 : n < 0
  · have d0 : decide (n < 0) = true := by simpa using h0
    clear hno hh2 hh3
    unfold Ref.val
    go_enter Try.func28, Try.ntmps28
    go_wp2
    refine bodyPost_ret (v := .tuple #[Ref.val ⟨AL, kL, L, AW, kW, W⟩ d.size d.off, .int .i64 1]) (by simp [results, Try.results28, go_sem, Ref.val]) rfl (HEND.out _ _)
  · have d0 : decide (n < 0) = false := by simpa using h0
    cases hh : d.has n
    · have d1 : decide ((L.length : Int) ≤ n) = true := by have := hh2 hh (by omega); simpa using this
      clear hno hh2 hh3 hh
      unfold Ref.val
      go_enter Try.func28, Try.ntmps28
      go_wp2
      refine bodyPost_ret (v := .tuple #[Ref.val ⟨AL, kL, L, AW, kW, W⟩ d.size d.off, .int .i64 1]) (by simp [results, Try.results28, go_sem, Ref.val]) rfl (HEND.out _ _)
    · have d1 : decide ((L.length : Int) ≤ n) = false := by have := hh3 hh; simp; omega
      have hno' : bit < 0 ∨ 8 * (d.size : Int) ≤ bit := by rcases hno with h | h | h; rw [hh] at h; cases h; exact .inl h; exact .inr h
      clear hno hh2 hh3 hh
      by_cases h1 : bit < 0
      · have d2 : decide (bit < 0) = true := by simpa using h1
        clear hno'
        unfold Ref.val
        go_enter Try.func28, Try.ntmps28
        go_wp2
        refine bodyPost_ret (v := .tuple #[Ref.val ⟨AL, kL, L, AW, kW, W⟩ d.size d.off, .int .i64 1]) (by simp [results, Try.results28, go_sem, Ref.val]) rfl (HEND.out _ _)
      · have d2 : decide (bit < 0) = false := by simpa using h1
        have d3 : decide (8 * (d.size : Int) ≤ bit) = true := by simp; omega
        clear hno'
        unfold Ref.val
        go_enter Try.func28, Try.ntmps28
        go_wp2
        refine bodyPost_ret (v := .tuple #[Ref.val ⟨AL, kL, L, AW, kW, W⟩ d.size d.off, .int .i64 1]) (by simp [results, Try.results28, go_sem, Ref.val]) rfl (HEND.out _ _)
theorem WaitOK.set {w : World} {F : Nat → Prop} {size : Nat} {L : List WR} {S : List (Nat × Sect)} (h : WaitOK w F size L S) (i : Nat) {r : WR} {x : Nat × Sect} (hn : r.n = (x.1 : Int)) (hr : WrOK w F size r x.2) : WaitOK w F size (L.set i r) (S.set i x) := by
  refine ⟨by simp [h.len], fun j q t hq ht => ?_⟩
  rw [List.getElem?_set] at hq ht
  by_cases hij : i = j
  · rw [if_pos hij] at hq ht
    split at hq
    · split at ht
      · injection hq with hq; injection ht with ht; subst hq; subst ht; exact ⟨hn, hr⟩
      · cases ht
    · cases hq
  · rw [if_neg hij] at hq ht
    exact h.at_ j q t hq ht
theorem modify_set {α : Type} {l : List α} {i : Nat} {a : α} (f : α → α) (h : l[i]? = some a) : l.modify i f = l.set i (f a) := by
  apply List.ext_getElem?
  intro j
  rw [List.getElem?_modify, List.getElem?_set]
  obtain ⟨hi, he⟩ := List.getElem?_eq_some_iff.1 h
  by_cases hij : i = j
  · subst hij
    simp [hi, he]
  · simp [hij]
/-- Stores into the three cells of a row's write. -/
theorem row_set {w : World} {base n g c : Nat} {L : List WR} (own : w.ownsRow base 70 3 (.slice (some ⟨g, 0, none⟩) n c) n (rC L)) (hL : L.length = n) {i : Nat} (hi : i < n) (r : WR) :
    (((w.setCell ⟨g, i * 3, none⟩ (.int .i64 r.n)).setCell ⟨g, i * 3 + 1, none⟩ (.slice r.A r.len r.cap)).setCell ⟨g, i * 3 + 2, none⟩ (.bool r.rot)).ownsRow base 70 3 (.slice (some ⟨g, 0, none⟩) n c) n (rC (L.set i r)) := by
  have o1 := (own.stored (i * 3) (.int .i64 r.n)).1
  have o2 := (o1.stored (i * 3 + 1) (.slice r.A r.len r.cap)).1
  have o3 := (o2.stored (i * 3 + 2) (.bool r.rot)).1
  rw [rC_set L i r (by omega)] at o3
  exact o3
theorem row_facts {w : World} {base n g c : Nat} {L : List WR} (own : w.ownsRow base 70 3 (.slice (some ⟨g, 0, none⟩) n c) n (rC L)) (hL : L.length = n) {i : Nat} (hi : i < n) :
    ∃ u0 u1 u2, w.cell? ⟨g, i * 3, none⟩ = some u0 ∧ w.cell? ⟨g, i * 3 + 1, none⟩ = some u1 ∧ w.cell? ⟨g, i * 3 + 2, none⟩ = some u2 := by
  have h : ∀ j, j < (rC L).length → ∃ u, w.cell? ⟨g, j, none⟩ = some u := by
    intro j hj
    have := own.cells (g := g) rfl j _ (List.getElem?_eq_getElem hj)
    rw [add_zero_off] at this
    exact ⟨_, this⟩
  obtain ⟨u0, h0⟩ := h (i * 3) (by rw [rC_len, hL]; omega)
  obtain ⟨u1, h1⟩ := h (i * 3 + 1) (by rw [rC_len, hL]; omega)
  obtain ⟨u2, h2⟩ := h (i * 3 + 2) (by rw [rC_len, hL]; omega)
  exact ⟨u0, u1, u2, h0, h1, h2⟩
theorem head_of_own {w : World} {base n : Nat} {e : TypeId} {size : Nat} {v : Value} {xs : List Value} (own : w.ownsRow base e size v n xs) (hn : 1 ≤ n) : ∃ g c, v = .slice (some ⟨g, 0, none⟩) n c ∧ base ≤ g ∧ g < w.heap.size := by
  rcases own.2 with ⟨_, h0⟩ | ⟨g, cap, cur, hv, hb, hh, _⟩
  · omega
  · exact ⟨g, cap, hv, hb, lt_of_block hh⟩
theorem set3_ok {w w5 : World} {T : TypeId} {x z : Array Value} {g4 k4 g3 k3 i size : Nat} {X : List WR} {bs : List Value} (n : Int) (A : Option Addr) (len cap : Nat) (rot : Bool) (hx : Blk w5 w.heap.size T x) (hz : Blk w5 (w.heap.size + 1) T z)
    (own : w5.ownsRow (w.heap.size + 1 + 1) 70 3 (.slice (some ⟨g4, 0, none⟩) X.length k4) X.length (rC X)) (owb : w5.ownsRow (w.heap.size + 1 + 1) 5 1 (.slice (some ⟨g3, 0, none⟩) size k3) size bs)
    (b5 : Below w.heap.size w w5) (hg : w.heap.size + 1 + 1 ≤ g4) (e34 : g3 ≠ g4) (hi : i < X.length) (w6 : World) (hw6 : w6 = ((w5.setCell ⟨g4, i * 3, none⟩ (.int .i64 n)).setCell ⟨g4, i * 3 + 1, none⟩ (.slice A len cap)).setCell ⟨g4, i * 3 + 2, none⟩ (.bool rot)) :
    Blk w6 w.heap.size T x ∧ Blk w6 (w.heap.size + 1) T z ∧ w6.ownsRow (w.heap.size + 1 + 1) 70 3 (.slice (some ⟨g4, 0, none⟩) X.length k4) X.length (rC (X.set i ⟨n, A, len, cap, rot⟩)) ∧
      w6.ownsRow (w.heap.size + 1 + 1) 5 1 (.slice (some ⟨g3, 0, none⟩) size k3) size bs ∧ Below w.heap.size w w6 := by
  have h1 : w.heap.size ≤ g4 := by omega
  subst hw6
  refine ⟨?_, ?_, row_set own rfl hi ⟨n, A, len, cap, rot⟩, ?_, ?_⟩
  · refine Blk.far (p := ⟨g4, i * 3 + 2, none⟩) (Blk.far (p := ⟨g4, i * 3 + 1, none⟩) (Blk.far (p := ⟨g4, i * 3, none⟩) hx ?_ _) ?_ _) ?_ _ <;> (show w.heap.size ≠ g4; omega)
  · refine Blk.far (p := ⟨g4, i * 3 + 2, none⟩) (Blk.far (p := ⟨g4, i * 3 + 1, none⟩) (Blk.far (p := ⟨g4, i * 3, none⟩) hz ?_ _) ?_ _) ?_ _ <;> (show w.heap.size + 1 ≠ g4; omega)
  · refine own_frame owb fun k hk => ?_
    have hk' : g3 = k := by simpa [Value.ownBlock] using hk
    subst hk'
    rw [heap_setCell_other _ ⟨g4, i * 3 + 2, none⟩ _ _ e34, heap_setCell_other _ ⟨g4, i * 3 + 1, none⟩ _ _ e34, heap_setCell_other _ ⟨g4, i * 3, none⟩ _ _ e34]
  · exact ((b5.setCell (p := ⟨g4, i * 3, none⟩) h1 _).setCell (p := ⟨g4, i * 3 + 1, none⟩) h1 _).setCell (p := ⟨g4, i * 3 + 2, none⟩) h1 _
/- ### Rot: both ways -/
set_option maxHeartbeats 3200000 in
set_option maxRecDepth 100000 in
theorem rrot_wait_y (m : Ref) (d : Dsk) (F : Nat → Prop) (n bit : Nat) (w : World) (h : RefOK w F m d) (hF : ∀ k, F k → k < w.heap.size) (hw : d.wait.length ≤ 1000000) (hn : n < d.last.length) (hbit : bit < 8 * d.size) (ho : d.off = false)
    (s : Sect) (l : List UInt8) (hs : s.bytes = some l) (ht : d.told[n]? = some s) (hll : l.length = d.size) (i : Nat) (hi : lastIdx d.wait n = some i) (hsi : d.wait[i]? = some (n, s)) (hrt : s.rot = true) :
    Calls Try.prog 28 #[m.val d.size d.off, .int .i64 (n : Int), .int .i64 (bit : Int)] w (RetRef2 w F 11 d) := by
  have hh : d.has n = true := by simp [Dsk.has]; omega
  have hE0 : d.readE n = 0 := by rw [readE_at hh ho ht, hs]; rfl
  have hRL : d.readL n = l := by
    unfold DiskP.Dsk.readL
    rw [hE0, if_pos rfl]
    unfold Dsk.readB
    rw [Int.toNat_natCast, ht]
    simp [hs]
  have RD := fun (w2 : World) (b2 : Below w.heap.size w w2) => rread_calls m d F (n : Int) w2 (h.below b2) (by omega)
  have LA := fun (w2 : World) (b2 : Below w.heap.size w w2) => last_calls m d F n w2 (h.below b2) (by omega)
  rw [ho] at RD LA ⊢
  obtain ⟨AL, kL, L, AW, kW, W⟩ := m
  have hLl : L.length = d.last.length := h.lo.len
  have hWl : W.length = d.wait.length := h.wo.len
  have hl2 := h.l2
  have hs2 := h.s2
  have hs1 := h.s1
  have hL2 : L.length ≤ 65536 := by omega
  have hW2 : W.length ≤ 1000000 := by omega
  have hnL : n < L.length := by omega
  have hI : lastI d.wait n = (i : Int) := by unfold lastI; rw [hi]
  have HI := Lib.hid hI
  have hil : i < W.length := by rw [hWl]; exact (List.getElem?_eq_some_iff.1 hsi).1
  obtain ⟨r, hr⟩ : ∃ p, W[i]? = some p := ⟨W[i], List.getElem?_eq_getElem _⟩
  obtain ⟨_, hpo⟩ := h.wo.at_ i r _ hr hsi
  have HR := Lib.hid hpo.1
  have hxr : RVF w F AW (rC W) := h.wr
  obtain ⟨b, off, rfl, hb, _, hc⟩ := hxr.row hr
  have HI0 := Lib.hid hi
  have HSI := Lib.hid hsi
  clear hr hpo hi hsi hI
  have d0 : decide ((n : Int) < 0) = false := by simp
  have d1 : decide ((L.length : Int) ≤ (n : Int)) = false := by simp; omega
  have d1' : decide (L.length ≤ n) = false := by simp; omega
  have d2 : decide ((bit : Int) < 0) = false := by simp
  have d3 : decide (8 * (d.size : Int) ≤ (bit : Int)) = false := by simp; omega
  have HH := Lib.hid hh
  have HE0 := Lib.hid hE0
  have HRL := Lib.hid hRL
  have HO := Lib.hid ho
  have HS := Lib.hid hs
  have HT := Lib.hid ht
  have HRT := Lib.hid hrt
  have HLL := Lib.hid hll
  have HLl := Lib.hid hLl
  have HWl := Lib.hid hWl
  clear hh hE0 hRL ho hs ht hll hLl hWl hrt
  unfold Ref.val at RD LA ⊢
  have B0 : ∀ o o' : Obj, Below w.heap.size w ((w.alloc o).alloc o') := fun o o' => ((Below.refl _ _).alloc (Nat.le_refl _) _).alloc (by simp) _
  go_enter Try.func28, Try.ntmps28
  go_wp2_with fail
  refine (RD _ (B0 _ _)).mono ?_
  rintro e w1 ⟨A1, c1, rfl, rv1, b1⟩
  rw [HE0.out, HRL.out, HLL.out]
  rw [HRL.out] at rv1
  have x1 : Blk w1 w.heap.size 51 #[.int .i64 (d.size : Int), .slice AL L.length kL, .slice (some ⟨b, off, none⟩) W.length kW, .bool false] := ((Blk.new w _ _).alloc _).below b1 (by simp; try omega)
  have z1 : Blk w1 (w.heap.size + 1) 51 #[.int .i64 0, .slice none 0 0, .slice none 0 0, .bool false] := by
    have := (Blk.new (w.alloc (.cells #[.int .i64 (d.size : Int), .slice AL L.length kL, .slice (some ⟨b, off, none⟩) W.length kW, .bool false] 51)) 51 #[.int .i64 0, .slice none 0 0, .slice none 0 0, .bool false]).below b1 (by simp)
    rw [World.size_alloc] at this
    exact this
  have b1' : Below w.heap.size w w1 := (B0 _ _).trans (b1.mono (by simp; omega))
  have q0 : w1.cell? ⟨w.heap.size, 0, none⟩ = some (.int .i64 (d.size : Int)) := x1.at_ rfl
  have q1 : w1.cell? ⟨w.heap.size, 1, none⟩ = some (.slice AL L.length kL) := x1.at_ rfl
  have q2 : w1.cell? ⟨w.heap.size, 2, none⟩ = some (.slice (some ⟨b, off, none⟩) W.length kW) := x1.at_ rfl
  have q3 : w1.cell? ⟨w.heap.size, 3, none⟩ = some (.bool false) := x1.at_ rfl
  have L1 := LA w1 b1'
  clear b1 RD LA
  go_wp2_with fail
  refine L1.mono ?_
  clear L1
  rintro e w2 ⟨rfl, b2⟩
  rw [HI.out]
  have x2 := x1.below b2 x1.lt
  have z2 := z1.below b2 z1.lt
  have b2' : Below w.heap.size w w2 := b1'.trans (b2.mono b1'.size)
  have rv2 := rv1.below b2
  clear q0 q1 q2 q3 x1 z1 b1' b2 rv1
  have q0 : w2.cell? ⟨w.heap.size, 0, none⟩ = some (.int .i64 (d.size : Int)) := x2.at_ rfl
  have q1 : w2.cell? ⟨w.heap.size, 1, none⟩ = some (.slice AL L.length kL) := x2.at_ rfl
  have q2 : w2.cell? ⟨w.heap.size, 2, none⟩ = some (.slice (some ⟨b, off, none⟩) W.length kW) := x2.at_ rfl
  have q3 : w2.cell? ⟨w.heap.size, 3, none⟩ = some (.bool false) := x2.at_ rfl
  have p0 : w2.cell? ⟨w.heap.size + 1, 0, none⟩ = some (.int .i64 0) := z2.at_ rfl
  have p1 : w2.cell? ⟨w.heap.size + 1, 1, none⟩ = some (.slice none 0 0) := z2.at_ rfl
  have p2 : w2.cell? ⟨w.heap.size + 1, 2, none⟩ = some (.slice none 0 0) := z2.at_ rfl
  have p3 : w2.cell? ⟨w.heap.size + 1, 3, none⟩ = some (.bool false) := z2.at_ rfl
  obtain ⟨c0, c1', c2⟩ := hc w2 b2'
  rw [HR.out, HRT.out] at c2
  have lw := b2'.size
  have lz := z2.lt
  clear hc
  have hG : RefOK w (fun k => F k ∨ k = w.heap.size ∨ k = w.heap.size + 1) ⟨AL, kL, L, (some ⟨b, off, none⟩), kW, W⟩ d := h.mono fun k hk hg => by rcases hg with hg | hg | hg; exact hg; omega; omega
  have hend : ∀ w3, Kept (fun k => k = w.heap.size ∨ k = w.heap.size + 1) w2 w3 → RetRef2 w F 11 d (.returned (.tuple #[Ref.val ⟨AL, kL, L, (some ⟨b, off, none⟩), kW, W⟩ d.size false, .int .i64 11])) w3 := by
    intro w3 hk3
    exact ⟨_, by rw [HO.out], ((hG.below b2').kept (hk3.mono fun _ _ h => .inr h)).mono (fun _ _ hf => .inl hf), b2'.trans (hk3.below (fun k _ hk => by rcases hk with rfl | rfl; exact Nat.le_refl _; exact Nat.le_succ _) b2'.size)⟩
  have HEND := Lib.hid hend
  have t0 := z2.frozen 0
  have t1 := z2.frozen 1
  have t2 := z2.frozen 2
  have t3 := z2.frozen 3
  clear hG hend x2 z2 rv2 h hxr
  go_wp2
  refine bodyPost_ret (v := .tuple #[Ref.val ⟨AL, kL, L, (some ⟨b, off, none⟩), kW, W⟩ d.size false, .int .i64 11]) (by simp [results, Try.results28, go_sem, Ref.val, p0, p1, p2, p3]) rfl (HEND.out _ ?_)
  repeat (first | exact Kept.refl _ _ | refine Kept.setCell ?_ (.inl (.inl rfl)) _ | refine Kept.setCell ?_ (.inl (.inr rfl)) _)
set_option maxHeartbeats 3200000 in
set_option maxRecDepth 100000 in
theorem rrot_wait_n (m : Ref) (d : Dsk) (F : Nat → Prop) (n bit : Nat) (w : World) (h : RefOK w F m d) (hF : ∀ k, F k → k < w.heap.size) (hw : d.wait.length ≤ 1000000) (hn : n < d.last.length) (hbit : bit < 8 * d.size) (ho : d.off = false)
    (s : Sect) (l : List UInt8) (hs : s.bytes = some l) (ht : d.told[n]? = some s) (hll : l.length = d.size) (i : Nat) (hi : lastIdx d.wait n = some i) (hsi : d.wait[i]? = some (n, s)) (hrt : s.rot = false) :
    Calls Try.prog 28 #[m.val d.size d.off, .int .i64 (n : Int), .int .i64 (bit : Int)] w (RetRef2 w F 0 (d.rotted n bit)) := by
  have hh : d.has n = true := by simp [Dsk.has]; omega
  have hE0 : d.readE n = 0 := by rw [readE_at hh ho ht, hs]; rfl
  have hRL : d.readL n = l := by
    unfold DiskP.Dsk.readL
    rw [hE0, if_pos rfl]
    unfold Dsk.readB
    rw [Int.toNat_natCast, ht]
    simp [hs]
  have RD := fun (w2 : World) (b2 : Below w.heap.size w w2) => rread_calls m d F (n : Int) w2 (h.below b2) (by omega)
  have LA := fun (w2 : World) (b2 : Below w.heap.size w w2) => last_calls m d F n w2 (h.below b2) (by omega)
  rw [ho] at RD LA ⊢
  obtain ⟨AL, kL, L, AW, kW, W⟩ := m
  have hLl : L.length = d.last.length := h.lo.len
  have hWl : W.length = d.wait.length := h.wo.len
  have hl2 := h.l2
  have hs2 := h.s2
  have hs1 := h.s1
  have hL2 : L.length ≤ 65536 := by omega
  have hW2 : W.length ≤ 1000000 := by omega
  have hnL : n < L.length := by omega
  have hI : lastI d.wait n = (i : Int) := by unfold lastI; rw [hi]
  have HI := Lib.hid hI
  have hil : i < W.length := by rw [hWl]; exact (List.getElem?_eq_some_iff.1 hsi).1
  obtain ⟨r, hr⟩ : ∃ p, W[i]? = some p := ⟨W[i], List.getElem?_eq_getElem _⟩
  obtain ⟨_, hpo⟩ := h.wo.at_ i r _ hr hsi
  have HR := Lib.hid hpo.1
  have hxr : RVF w F AW (rC W) := h.wr
  obtain ⟨b, off, rfl, hb, _, hc⟩ := hxr.row hr
  have HI0 := Lib.hid hi
  have HSI := Lib.hid hsi
  clear hr hpo hi hsi hI
  have d0 : decide ((n : Int) < 0) = false := by simp
  have d1 : decide ((L.length : Int) ≤ (n : Int)) = false := by simp; omega
  have d1' : decide (L.length ≤ n) = false := by simp; omega
  have d2 : decide ((bit : Int) < 0) = false := by simp
  have d3 : decide (8 * (d.size : Int) ≤ (bit : Int)) = false := by simp; omega
  have HH := Lib.hid hh
  have HE0 := Lib.hid hE0
  have HRL := Lib.hid hRL
  have HO := Lib.hid ho
  have HS := Lib.hid hs
  have HT := Lib.hid ht
  have HRT := Lib.hid hrt
  have HLL := Lib.hid hll
  have HLl := Lib.hid hLl
  have HWl := Lib.hid hWl
  clear hh hE0 hRL ho hs ht hll hLl hWl hrt
  unfold Ref.val at RD LA ⊢
  have B0 : ∀ o o' : Obj, Below w.heap.size w ((w.alloc o).alloc o') := fun o o' => ((Below.refl _ _).alloc (Nat.le_refl _) _).alloc (by simp) _
  go_enter Try.func28, Try.ntmps28
  go_wp2_with fail
  refine (RD _ (B0 _ _)).mono ?_
  rintro e w1 ⟨A1, c1, rfl, rv1, b1⟩
  rw [HE0.out, HRL.out, HLL.out]
  rw [HRL.out] at rv1
  have x1 : Blk w1 w.heap.size 51 #[.int .i64 (d.size : Int), .slice AL L.length kL, .slice (some ⟨b, off, none⟩) W.length kW, .bool false] := ((Blk.new w _ _).alloc _).below b1 (by simp; try omega)
  have z1 : Blk w1 (w.heap.size + 1) 51 #[.int .i64 0, .slice none 0 0, .slice none 0 0, .bool false] := by
    have := (Blk.new (w.alloc (.cells #[.int .i64 (d.size : Int), .slice AL L.length kL, .slice (some ⟨b, off, none⟩) W.length kW, .bool false] 51)) 51 #[.int .i64 0, .slice none 0 0, .slice none 0 0, .bool false]).below b1 (by simp)
    rw [World.size_alloc] at this
    exact this
  have b1' : Below w.heap.size w w1 := (B0 _ _).trans (b1.mono (by simp; omega))
  have q0 : w1.cell? ⟨w.heap.size, 0, none⟩ = some (.int .i64 (d.size : Int)) := x1.at_ rfl
  have q1 : w1.cell? ⟨w.heap.size, 1, none⟩ = some (.slice AL L.length kL) := x1.at_ rfl
  have q2 : w1.cell? ⟨w.heap.size, 2, none⟩ = some (.slice (some ⟨b, off, none⟩) W.length kW) := x1.at_ rfl
  have q3 : w1.cell? ⟨w.heap.size, 3, none⟩ = some (.bool false) := x1.at_ rfl
  have L1 := LA w1 b1'
  clear b1 RD LA
  go_wp2_with fail
  refine L1.mono ?_
  clear L1
  rintro e w2 ⟨rfl, b2⟩
  rw [HI.out]
  have x2 := x1.below b2 x1.lt
  have z2 := z1.below b2 z1.lt
  have b2' : Below w.heap.size w w2 := b1'.trans (b2.mono b1'.size)
  have rv2 := rv1.below b2
  clear q0 q1 q2 q3 x1 z1 b1' b2 rv1
  have q0 : w2.cell? ⟨w.heap.size, 0, none⟩ = some (.int .i64 (d.size : Int)) := x2.at_ rfl
  have q1 : w2.cell? ⟨w.heap.size, 1, none⟩ = some (.slice AL L.length kL) := x2.at_ rfl
  have q2 : w2.cell? ⟨w.heap.size, 2, none⟩ = some (.slice (some ⟨b, off, none⟩) W.length kW) := x2.at_ rfl
  have q3 : w2.cell? ⟨w.heap.size, 3, none⟩ = some (.bool false) := x2.at_ rfl
  have p0 : w2.cell? ⟨w.heap.size + 1, 0, none⟩ = some (.int .i64 0) := z2.at_ rfl
  have p1 : w2.cell? ⟨w.heap.size + 1, 1, none⟩ = some (.slice none 0 0) := z2.at_ rfl
  have p2 : w2.cell? ⟨w.heap.size + 1, 2, none⟩ = some (.slice none 0 0) := z2.at_ rfl
  have p3 : w2.cell? ⟨w.heap.size + 1, 3, none⟩ = some (.bool false) := z2.at_ rfl
  obtain ⟨c0, c1', c2⟩ := hc w2 b2'
  rw [HR.out, HRT.out] at c2
  have lw := b2'.size
  have lz := z2.lt
  clear hc
  have TU := turned_calls l A1 c1 bit w2 rv2.rv (by rw [HLL.out]; omega) (by rw [HLL.out]; omega)
  rw [HLL.out] at TU
  go_wp2_with fail
  refine TU.mono ?_
  clear TU
  rintro e w3 ⟨g3, k3, rfl, own3, b3⟩
  have x3 := x2.below b3 x2.lt
  have z3 := z2.below b3 z2.lt
  have b3' : Below w.heap.size w w3 := b2'.trans (b3.mono b2'.size)
  have l23 := b3.size
  clear q0 q1 q2 q3 p0 p1 p2 p3 c0 c1' c2 x2 z2 b3 rv2
  have q0 : w3.cell? ⟨w.heap.size, 0, none⟩ = some (.int .i64 (d.size : Int)) := x3.at_ rfl
  have q1 : w3.cell? ⟨w.heap.size, 1, none⟩ = some (.slice AL L.length kL) := x3.at_ rfl
  have q2 : w3.cell? ⟨w.heap.size, 2, none⟩ = some (.slice (some ⟨b, off, none⟩) W.length kW) := x3.at_ rfl
  have q3 : w3.cell? ⟨w.heap.size, 3, none⟩ = some (.bool false) := x3.at_ rfl
  have y2 := x3.frozen 2
  have lx := x3.lt
  have lz3 := z3.lt
  have ws := b3'.size
  go_wp2_with ((with_reducible show wpList _ _ _ (⟨some 79, _, _, _, _, _⟩ :: _) _ _); refine wpList_append_rv el_rw rfl (.tmp 76) (.tmp 78) rfl (w.heap.size + 1 + 1) (.slice (some ⟨w3.heap.size + 1, 0, none⟩) 0 0) 0 [] rfl (own_empty' _ _ _ _ (by simp) (by omega)) (some ⟨b, off, none⟩) W.length kW (rC W) rfl (rC_len W) ?e1 (rC_one W) ?e2 ?e3 ?e4 ?_)
  case e1 => exact (hxr.below ((b3'.alloc ws _).alloc (by simp; omega) _)).rv
  case e2 => unfold maxLen; omega
  case e3 => omega
  case e4 => (simp; try omega)
  intro v4 w4 own4 gr4 hv4
  try simp only [Nat.zero_add, List.nil_append] at own4
  obtain ⟨g4, k4, hv4f, hg4, hg4l⟩ := head_of_own own4 (by omega)
  have ne4 : ∀ k, k < w3.heap.size + 1 → some k ≠ (Value.slice (some ⟨w3.heap.size + 1, 0, none⟩) 0 0).ownBlock := fun k hk e => by simp [Value.ownBlock] at e; omega
  have x4 := ((x3.alloc (.cells #[.int .i64 (n : Int), .slice (some ⟨g3, 0, none⟩) d.size k3, .bool true] 70)).alloc (.cells #[] 70)).grown gr4 (ne4 _ (by omega))
  have z4 := ((z3.alloc (.cells #[.int .i64 (n : Int), .slice (some ⟨g3, 0, none⟩) d.size k3, .bool true] 70)).alloc (.cells #[] 70)).grown gr4 (ne4 _ (by omega))
  have r4 := ((Blk.new w3 70 #[.int .i64 (n : Int), .slice (some ⟨g3, 0, none⟩) d.size k3, .bool true]).alloc (.cells #[] 70)).grown gr4 (ne4 _ (by omega))
  have own3' : w4.ownsRow (w.heap.size + 1 + 1) 5 1 (.slice (some ⟨g3, 0, none⟩) d.size k3) d.size (cB (turnBit l bit)) := own_frame (own_mono ((own3.alloc _).alloc _) (by omega)) fun k hk => gr4.block k (by have := own_lt own3 hk; simp; omega) (ne4 k (by have := own_lt own3 hk; omega))
  have b4' : Below w.heap.size w w4 := ((b3'.alloc ws _).alloc (by simp; omega) _).grown gr4 (by simp; omega) (fun k hk => by simp [Value.ownBlock] at hk; omega)
  subst hv4f
  have HX := Lib.hid x4
  have HZ := Lib.hid z4
  have HR4 := Lib.hid r4
  have HO4 := Lib.hid own4
  have HO3 := Lib.hid own3'
  have nr : g4 ≠ w3.heap.size := by
    intro e
    rcases hv4 with h | h
    · simp [Value.ownBlock] at h; omega
    · simp [Value.ownBlock] at h; omega
  have q1' : w4.cell? ⟨w.heap.size, 2, none⟩ = some (.slice (some ⟨b, off, none⟩) W.length kW) := x4.at_ rfl
  have y1 := x4.frozen 2
  clear gr4 hv4 ne4 x3 z3 own3 x4 z4 r4 own4 own3' q0 q1 q2 q3 y2 lx lz3 ws
  go_wp2_with ((with_reducible show wpList _ _ _ (⟨some 81, _, _, _, _, _⟩ :: _) _ _); refine wpList_abs (fun w5 => Blk w5 w.heap.size 51 #[.int .i64 (d.size : Int), .slice AL L.length kL, .slice (some ⟨g4, 0, none⟩) W.length k4, .bool false] ∧ Blk w5 (w.heap.size + 1) 51 #[.int .i64 0, .slice none 0 0, .slice none 0 0, .bool false] ∧ Blk w5 w3.heap.size 70 #[.int .i64 (n : Int), .slice (some ⟨g3, 0, none⟩) d.size k3, .bool true] ∧
      w5.ownsRow (w.heap.size + 1 + 1) 70 3 (.slice (some ⟨g4, 0, none⟩) W.length k4) W.length (rC W) ∧ w5.ownsRow (w.heap.size + 1 + 1) 5 1 (.slice (some ⟨g3, 0, none⟩) d.size k3) d.size (cB (turnBit l bit)) ∧ Below w.heap.size w w5) ?i1 ?_)
  case i1 =>
    refine ⟨HX.out.set_ 2 _, HZ.out.far (by simp) _, HR4.out.far (by show w3.heap.size ≠ w.heap.size; omega) _, own_frame HO4.out fun k hk => heap_setCell_other _ _ _ _ (by have := (own_lt HO4.out hk).1; show k ≠ w.heap.size; omega), own_frame HO3.out fun k hk => heap_setCell_other _ _ _ _ (by have := (own_lt HO3.out hk).1; show k ≠ w.heap.size; omega), b4'.setCell (Nat.le_refl _) _⟩
  rintro w5 ⟨x5, z5, r5, own5, owb5, b5⟩
  clear q1' y1 HX HZ HR4 HO4 HO3 b4' b3'
  obtain ⟨u0, u1, u2, g0, g1, g2⟩ := row_facts own5 (i := i) rfl hil
  have f0 := own5.frozenAt (i * 3)
  have f1 := own5.frozenAt (i * 3 + 1)
  have f2 := own5.frozenAt (i * 3 + 2)
  have q1 : w5.cell? ⟨w.heap.size, 2, none⟩ = some (.slice (some ⟨g4, 0, none⟩) W.length k4) := x5.at_ rfl
  have m0 : w5.cell? ⟨w3.heap.size, 0, none⟩ = some (.int .i64 (n : Int)) := r5.at_ rfl
  have m1 : w5.cell? ⟨w3.heap.size, 1, none⟩ = some (.slice (some ⟨g3, 0, none⟩) d.size k3) := r5.at_ rfl
  have m2 : w5.cell? ⟨w3.heap.size, 2, none⟩ = some (.bool true) := r5.at_ rfl
  have HX := Lib.hid x5
  have HZ := Lib.hid z5
  have HO5 := Lib.hid own5
  have HB5 := Lib.hid owb5
  have e34 : g3 ≠ g4 := own_ne2 owb5 rfl own5 rfl (by decide)
  clear x5 z5 r5 own5 owb5
  go_wp2_with ((with_reducible show wpList _ _ _ (⟨some 96, _, _, _, _, _⟩ :: _) _ _); refine wpList_abs (fun w6 => Blk w6 w.heap.size 51 #[.int .i64 (d.size : Int), .slice AL L.length kL, .slice (some ⟨g4, 0, none⟩) W.length k4, .bool false] ∧ Blk w6 (w.heap.size + 1) 51 #[.int .i64 0, .slice none 0 0, .slice none 0 0, .bool false] ∧
      w6.ownsRow (w.heap.size + 1 + 1) 70 3 (.slice (some ⟨g4, 0, none⟩) W.length k4) W.length (rC (W.set i ⟨(n : Int), some ⟨g3, 0, none⟩, d.size, k3, true⟩)) ∧ w6.ownsRow (w.heap.size + 1 + 1) 5 1 (.slice (some ⟨g3, 0, none⟩) d.size k3) d.size (cB (turnBit l bit)) ∧ Below w.heap.size w w6) ?j1 ?_)
  case j1 => exact set3_ok (n : Int) (some ⟨g3, 0, none⟩) d.size k3 true HX.out HZ.out HO5.out HB5.out b5 hg4 e34 hil _ rfl
  rintro w6 ⟨x6, z6, own6, owb6, b6⟩
  clear q1 m0 m1 m2 HX HZ HO5 HB5 g0 g1 g2 f0 f1 f2 b5 e34
  have hFb : ∀ k, (F k ∨ k = w.heap.size ∨ k = w.heap.size + 1) → k < w.heap.size + 1 + 1 := fun k hk => by rcases hk with hk | hk | hk; (have := hF k hk; omega); omega; omega
  have hG0 : RefOK w (fun k => F k ∨ k = w.heap.size ∨ k = w.heap.size + 1) ⟨AL, kL, L, (some ⟨b, off, none⟩), kW, W⟩ d := h.mono fun k hk hg => by rcases hg with hg | hg | hg; exact hg; omega; omega
  have hG := hG0.below b6
  have hwo6 : WrOK w6 (fun k => F k ∨ k = w.heap.size ∨ k = w.heap.size + 1) d.size ⟨(n : Int), some ⟨g3, 0, none⟩, d.size, k3, true⟩ (s.turn bit) := by
    have : (s.turn bit).bytes = some (turnBit l bit) := by unfold Sect.turn; rw [HS.out]; rfl
    unfold WrOK
    rw [this]
    refine ⟨rfl, ?_, rfl, RVF.of_own owb6 hFb⟩
    have := owb6.1
    rw [cB_len] at this
    omega
  have hm : RefOK w6 (fun k => F k ∨ k = w.heap.size ∨ k = w.heap.size + 1) ⟨AL, kL, L, some ⟨g4, 0, none⟩, k4, W.set i ⟨(n : Int), some ⟨g3, 0, none⟩, d.size, k3, true⟩⟩ { d with wait := d.wait.set i (n, s.turn bit) } :=
    { lr := hG.lr
      wr := by
        have := RVF.of_own own6 hFb
        exact this
      lo := hG.lo
      wo := hG.wo.set i (x := (n, s.turn bit)) rfl hwo6
      s1 := h.s1
      s2 := h.s2
      l1 := h.l1
      l2 := h.l2
      ww := fun x hx => by
        rcases List.mem_or_eq_of_mem_set hx with hx | rfl
        · exact h.ww x hx
        · exact hn }
  have hS : d.rotted n bit = { d with wait := d.wait.set i (n, s.turn bit) } := by
    unfold Dsk.rotted
    rw [HI0.out]
    simp only [modify_set (fun x : Nat × Sect => (x.1, x.2.turn bit)) HSI.out]
  have hend : ∀ w7, Kept (fun k => k = w.heap.size ∨ k = w.heap.size + 1) w6 w7 → RetRef2 w F 0 (d.rotted n bit) (.returned (.tuple #[.agg #[.int .i64 (d.size : Int), .slice AL L.length kL, .slice (some ⟨g4, 0, none⟩) W.length k4, .bool false], .int .i64 0])) w7 := by
    intro w7 hk7
    rw [hS]
    refine ⟨_, ?_, (hm.kept (hk7.mono fun _ _ h => .inr h)).mono (fun _ _ hf => .inl hf), b6.trans (hk7.below (fun k _ hk => by rcases hk with rfl | rfl; exact Nat.le_refl _; exact Nat.le_succ _) b6.size)⟩
    unfold Ref.val
    simp only [HO.out, List.length_set]
  have HEND := Lib.hid hend
  have p0 : w6.cell? ⟨w.heap.size + 1, 0, none⟩ = some (.int .i64 0) := z6.at_ rfl
  have p1 : w6.cell? ⟨w.heap.size + 1, 1, none⟩ = some (.slice none 0 0) := z6.at_ rfl
  have p2 : w6.cell? ⟨w.heap.size + 1, 2, none⟩ = some (.slice none 0 0) := z6.at_ rfl
  have p3 : w6.cell? ⟨w.heap.size + 1, 3, none⟩ = some (.bool false) := z6.at_ rfl
  have t0 := z6.frozen 0
  have t1 := z6.frozen 1
  have t2 := z6.frozen 2
  have t3 := z6.frozen 3
  have s0 : w6.cell? ⟨w.heap.size, 0, none⟩ = some (.int .i64 (d.size : Int)) := x6.at_ rfl
  have s1 : w6.cell? ⟨w.heap.size, 1, none⟩ = some (.slice AL L.length kL) := x6.at_ rfl
  have s2 : w6.cell? ⟨w.heap.size, 2, none⟩ = some (.slice (some ⟨g4, 0, none⟩) W.length k4) := x6.at_ rfl
  have s3 : w6.cell? ⟨w.heap.size, 3, none⟩ = some (.bool false) := x6.at_ rfl
  clear x6 z6 own6 owb6 hFb hG0 hG hwo6 hm hS hend h hxr
  go_wp2
  refine bodyPost_ret (v := .tuple #[.agg #[.int .i64 (d.size : Int), .slice AL L.length kL, .slice (some ⟨g4, 0, none⟩) W.length k4, .bool false], .int .i64 0]) (by simp [results, Try.results28, go_sem, p0, p1, p2, p3]) rfl (HEND.out _ ?_)
  repeat (first | exact Kept.refl _ _ | refine Kept.setCell ?_ (.inl (.inl rfl)) _ | refine Kept.setCell ?_ (.inl (.inr rfl)) _)
set_option maxHeartbeats 3200000 in
set_option maxRecDepth 100000 in
theorem rrot_last_y (m : Ref) (d : Dsk) (F : Nat → Prop) (n bit : Nat) (w : World) (h : RefOK w F m d) (hF : ∀ k, F k → k < w.heap.size) (hw : d.wait.length ≤ 1000000) (hn : n < d.last.length) (hbit : bit < 8 * d.size) (ho : d.off = false)
    (s : Sect) (l : List UInt8) (hs : s.bytes = some l) (ht : d.told[n]? = some s) (hll : l.length = d.size) (hi : lastIdx d.wait n = none) (hsi : d.last[n]? = some s) (hrt : s.rot = true) :
    Calls Try.prog 28 #[m.val d.size d.off, .int .i64 (n : Int), .int .i64 (bit : Int)] w (RetRef2 w F 11 d) := by
  have hh : d.has n = true := by simp [Dsk.has]; omega
  have hE0 : d.readE n = 0 := by rw [readE_at hh ho ht, hs]; rfl
  have hRL : d.readL n = l := by
    unfold DiskP.Dsk.readL
    rw [hE0, if_pos rfl]
    unfold Dsk.readB
    rw [Int.toNat_natCast, ht]
    simp [hs]
  have RD := fun (w2 : World) (b2 : Below w.heap.size w w2) => rread_calls m d F (n : Int) w2 (h.below b2) (by omega)
  have LA := fun (w2 : World) (b2 : Below w.heap.size w w2) => last_calls m d F n w2 (h.below b2) (by omega)
  rw [ho] at RD LA ⊢
  obtain ⟨AL, kL, L, AW, kW, W⟩ := m
  have hLl : L.length = d.last.length := h.lo.len
  have hWl : W.length = d.wait.length := h.wo.len
  have hl2 := h.l2
  have hs2 := h.s2
  have hs1 := h.s1
  have hL2 : L.length ≤ 65536 := by omega
  have hW2 : W.length ≤ 1000000 := by omega
  have hnL : n < L.length := by omega
  have hI : lastI d.wait n = -1 := by unfold lastI; rw [hi]
  have HI := Lib.hid hI
  obtain ⟨r, hr⟩ : ∃ p, L[n]? = some p := ⟨L[n], List.getElem?_eq_getElem _⟩
  have hpo := h.lo.at_ n r _ hr hsi
  have HR := Lib.hid hpo.1
  have hxr : RVF w F AL (rC L) := h.lr
  obtain ⟨b, off, rfl, hb, _, hc⟩ := hxr.row hr
  have HI0 := Lib.hid hi
  have HSI := Lib.hid hsi
  clear hr hpo hi hsi hI
  have d0 : decide ((n : Int) < 0) = false := by simp
  have d1 : decide ((L.length : Int) ≤ (n : Int)) = false := by simp; omega
  have d1' : decide (L.length ≤ n) = false := by simp; omega
  have d2 : decide ((bit : Int) < 0) = false := by simp
  have d3 : decide (8 * (d.size : Int) ≤ (bit : Int)) = false := by simp; omega
  have HH := Lib.hid hh
  have HE0 := Lib.hid hE0
  have HRL := Lib.hid hRL
  have HO := Lib.hid ho
  have HS := Lib.hid hs
  have HT := Lib.hid ht
  have HRT := Lib.hid hrt
  have HLL := Lib.hid hll
  have HLl := Lib.hid hLl
  have HWl := Lib.hid hWl
  clear hh hE0 hRL ho hs ht hll hLl hWl hrt
  unfold Ref.val at RD LA ⊢
  have B0 : ∀ o o' : Obj, Below w.heap.size w ((w.alloc o).alloc o') := fun o o' => ((Below.refl _ _).alloc (Nat.le_refl _) _).alloc (by simp) _
  go_enter Try.func28, Try.ntmps28
  go_wp2_with fail
  refine (RD _ (B0 _ _)).mono ?_
  rintro e w1 ⟨A1, c1, rfl, rv1, b1⟩
  rw [HE0.out, HRL.out, HLL.out]
  rw [HRL.out] at rv1
  have x1 : Blk w1 w.heap.size 51 #[.int .i64 (d.size : Int), .slice (some ⟨b, off, none⟩) L.length kL, .slice AW W.length kW, .bool false] := ((Blk.new w _ _).alloc _).below b1 (by simp; try omega)
  have z1 : Blk w1 (w.heap.size + 1) 51 #[.int .i64 0, .slice none 0 0, .slice none 0 0, .bool false] := by
    have := (Blk.new (w.alloc (.cells #[.int .i64 (d.size : Int), .slice (some ⟨b, off, none⟩) L.length kL, .slice AW W.length kW, .bool false] 51)) 51 #[.int .i64 0, .slice none 0 0, .slice none 0 0, .bool false]).below b1 (by simp)
    rw [World.size_alloc] at this
    exact this
  have b1' : Below w.heap.size w w1 := (B0 _ _).trans (b1.mono (by simp; omega))
  have q0 : w1.cell? ⟨w.heap.size, 0, none⟩ = some (.int .i64 (d.size : Int)) := x1.at_ rfl
  have q1 : w1.cell? ⟨w.heap.size, 1, none⟩ = some (.slice (some ⟨b, off, none⟩) L.length kL) := x1.at_ rfl
  have q2 : w1.cell? ⟨w.heap.size, 2, none⟩ = some (.slice AW W.length kW) := x1.at_ rfl
  have q3 : w1.cell? ⟨w.heap.size, 3, none⟩ = some (.bool false) := x1.at_ rfl
  have L1 := LA w1 b1'
  clear b1 RD LA
  go_wp2_with fail
  refine L1.mono ?_
  clear L1
  rintro e w2 ⟨rfl, b2⟩
  rw [HI.out]
  have x2 := x1.below b2 x1.lt
  have z2 := z1.below b2 z1.lt
  have b2' : Below w.heap.size w w2 := b1'.trans (b2.mono b1'.size)
  have rv2 := rv1.below b2
  clear q0 q1 q2 q3 x1 z1 b1' b2 rv1
  have q0 : w2.cell? ⟨w.heap.size, 0, none⟩ = some (.int .i64 (d.size : Int)) := x2.at_ rfl
  have q1 : w2.cell? ⟨w.heap.size, 1, none⟩ = some (.slice (some ⟨b, off, none⟩) L.length kL) := x2.at_ rfl
  have q2 : w2.cell? ⟨w.heap.size, 2, none⟩ = some (.slice AW W.length kW) := x2.at_ rfl
  have q3 : w2.cell? ⟨w.heap.size, 3, none⟩ = some (.bool false) := x2.at_ rfl
  have p0 : w2.cell? ⟨w.heap.size + 1, 0, none⟩ = some (.int .i64 0) := z2.at_ rfl
  have p1 : w2.cell? ⟨w.heap.size + 1, 1, none⟩ = some (.slice none 0 0) := z2.at_ rfl
  have p2 : w2.cell? ⟨w.heap.size + 1, 2, none⟩ = some (.slice none 0 0) := z2.at_ rfl
  have p3 : w2.cell? ⟨w.heap.size + 1, 3, none⟩ = some (.bool false) := z2.at_ rfl
  obtain ⟨c0, c1', c2⟩ := hc w2 b2'
  rw [HR.out, HRT.out] at c2
  have lw := b2'.size
  have lz := z2.lt
  clear hc
  have hG : RefOK w (fun k => F k ∨ k = w.heap.size ∨ k = w.heap.size + 1) ⟨(some ⟨b, off, none⟩), kL, L, AW, kW, W⟩ d := h.mono fun k hk hg => by rcases hg with hg | hg | hg; exact hg; omega; omega
  have hend : ∀ w3, Kept (fun k => k = w.heap.size ∨ k = w.heap.size + 1) w2 w3 → RetRef2 w F 11 d (.returned (.tuple #[Ref.val ⟨(some ⟨b, off, none⟩), kL, L, AW, kW, W⟩ d.size false, .int .i64 11])) w3 := by
    intro w3 hk3
    exact ⟨_, by rw [HO.out], ((hG.below b2').kept (hk3.mono fun _ _ h => .inr h)).mono (fun _ _ hf => .inl hf), b2'.trans (hk3.below (fun k _ hk => by rcases hk with rfl | rfl; exact Nat.le_refl _; exact Nat.le_succ _) b2'.size)⟩
  have HEND := Lib.hid hend
  have t0 := z2.frozen 0
  have t1 := z2.frozen 1
  have t2 := z2.frozen 2
  have t3 := z2.frozen 3
  clear hG hend x2 z2 rv2 h hxr
  go_wp2
  refine bodyPost_ret (v := .tuple #[Ref.val ⟨(some ⟨b, off, none⟩), kL, L, AW, kW, W⟩ d.size false, .int .i64 11]) (by simp [results, Try.results28, go_sem, Ref.val, p0, p1, p2, p3]) rfl (HEND.out _ ?_)
  repeat (first | exact Kept.refl _ _ | refine Kept.setCell ?_ (.inl (.inl rfl)) _ | refine Kept.setCell ?_ (.inl (.inr rfl)) _)
set_option maxHeartbeats 3200000 in
set_option maxRecDepth 100000 in
theorem rrot_last_n (m : Ref) (d : Dsk) (F : Nat → Prop) (n bit : Nat) (w : World) (h : RefOK w F m d) (hF : ∀ k, F k → k < w.heap.size) (hw : d.wait.length ≤ 1000000) (hn : n < d.last.length) (hbit : bit < 8 * d.size) (ho : d.off = false)
    (s : Sect) (l : List UInt8) (hs : s.bytes = some l) (ht : d.told[n]? = some s) (hll : l.length = d.size) (hi : lastIdx d.wait n = none) (hsi : d.last[n]? = some s) (hrt : s.rot = false) :
    Calls Try.prog 28 #[m.val d.size d.off, .int .i64 (n : Int), .int .i64 (bit : Int)] w (RetRef2 w F 0 (d.rotted n bit)) := by
  have hh : d.has n = true := by simp [Dsk.has]; omega
  have hE0 : d.readE n = 0 := by rw [readE_at hh ho ht, hs]; rfl
  have hRL : d.readL n = l := by
    unfold DiskP.Dsk.readL
    rw [hE0, if_pos rfl]
    unfold Dsk.readB
    rw [Int.toNat_natCast, ht]
    simp [hs]
  have RD := fun (w2 : World) (b2 : Below w.heap.size w w2) => rread_calls m d F (n : Int) w2 (h.below b2) (by omega)
  have LA := fun (w2 : World) (b2 : Below w.heap.size w w2) => last_calls m d F n w2 (h.below b2) (by omega)
  rw [ho] at RD LA ⊢
  obtain ⟨AL, kL, L, AW, kW, W⟩ := m
  have hLl : L.length = d.last.length := h.lo.len
  have hWl : W.length = d.wait.length := h.wo.len
  have hl2 := h.l2
  have hs2 := h.s2
  have hs1 := h.s1
  have hL2 : L.length ≤ 65536 := by omega
  have hW2 : W.length ≤ 1000000 := by omega
  have hnL : n < L.length := by omega
  have hI : lastI d.wait n = -1 := by unfold lastI; rw [hi]
  have HI := Lib.hid hI
  obtain ⟨r, hr⟩ : ∃ p, L[n]? = some p := ⟨L[n], List.getElem?_eq_getElem _⟩
  have hpo := h.lo.at_ n r _ hr hsi
  have HR := Lib.hid hpo.1
  have hxr : RVF w F AL (rC L) := h.lr
  obtain ⟨b, off, rfl, hb, _, hc⟩ := hxr.row hr
  have HI0 := Lib.hid hi
  have HSI := Lib.hid hsi
  clear hr hpo hi hsi hI
  have d0 : decide ((n : Int) < 0) = false := by simp
  have d1 : decide ((L.length : Int) ≤ (n : Int)) = false := by simp; omega
  have d1' : decide (L.length ≤ n) = false := by simp; omega
  have d2 : decide ((bit : Int) < 0) = false := by simp
  have d3 : decide (8 * (d.size : Int) ≤ (bit : Int)) = false := by simp; omega
  have HH := Lib.hid hh
  have HE0 := Lib.hid hE0
  have HRL := Lib.hid hRL
  have HO := Lib.hid ho
  have HS := Lib.hid hs
  have HT := Lib.hid ht
  have HRT := Lib.hid hrt
  have HLL := Lib.hid hll
  have HLl := Lib.hid hLl
  have HWl := Lib.hid hWl
  clear hh hE0 hRL ho hs ht hll hLl hWl hrt
  unfold Ref.val at RD LA ⊢
  have B0 : ∀ o o' : Obj, Below w.heap.size w ((w.alloc o).alloc o') := fun o o' => ((Below.refl _ _).alloc (Nat.le_refl _) _).alloc (by simp) _
  go_enter Try.func28, Try.ntmps28
  go_wp2_with fail
  refine (RD _ (B0 _ _)).mono ?_
  rintro e w1 ⟨A1, c1, rfl, rv1, b1⟩
  rw [HE0.out, HRL.out, HLL.out]
  rw [HRL.out] at rv1
  have x1 : Blk w1 w.heap.size 51 #[.int .i64 (d.size : Int), .slice (some ⟨b, off, none⟩) L.length kL, .slice AW W.length kW, .bool false] := ((Blk.new w _ _).alloc _).below b1 (by simp; try omega)
  have z1 : Blk w1 (w.heap.size + 1) 51 #[.int .i64 0, .slice none 0 0, .slice none 0 0, .bool false] := by
    have := (Blk.new (w.alloc (.cells #[.int .i64 (d.size : Int), .slice (some ⟨b, off, none⟩) L.length kL, .slice AW W.length kW, .bool false] 51)) 51 #[.int .i64 0, .slice none 0 0, .slice none 0 0, .bool false]).below b1 (by simp)
    rw [World.size_alloc] at this
    exact this
  have b1' : Below w.heap.size w w1 := (B0 _ _).trans (b1.mono (by simp; omega))
  have q0 : w1.cell? ⟨w.heap.size, 0, none⟩ = some (.int .i64 (d.size : Int)) := x1.at_ rfl
  have q1 : w1.cell? ⟨w.heap.size, 1, none⟩ = some (.slice (some ⟨b, off, none⟩) L.length kL) := x1.at_ rfl
  have q2 : w1.cell? ⟨w.heap.size, 2, none⟩ = some (.slice AW W.length kW) := x1.at_ rfl
  have q3 : w1.cell? ⟨w.heap.size, 3, none⟩ = some (.bool false) := x1.at_ rfl
  have L1 := LA w1 b1'
  clear b1 RD LA
  go_wp2_with fail
  refine L1.mono ?_
  clear L1
  rintro e w2 ⟨rfl, b2⟩
  rw [HI.out]
  have x2 := x1.below b2 x1.lt
  have z2 := z1.below b2 z1.lt
  have b2' : Below w.heap.size w w2 := b1'.trans (b2.mono b1'.size)
  have rv2 := rv1.below b2
  clear q0 q1 q2 q3 x1 z1 b1' b2 rv1
  have q0 : w2.cell? ⟨w.heap.size, 0, none⟩ = some (.int .i64 (d.size : Int)) := x2.at_ rfl
  have q1 : w2.cell? ⟨w.heap.size, 1, none⟩ = some (.slice (some ⟨b, off, none⟩) L.length kL) := x2.at_ rfl
  have q2 : w2.cell? ⟨w.heap.size, 2, none⟩ = some (.slice AW W.length kW) := x2.at_ rfl
  have q3 : w2.cell? ⟨w.heap.size, 3, none⟩ = some (.bool false) := x2.at_ rfl
  have p0 : w2.cell? ⟨w.heap.size + 1, 0, none⟩ = some (.int .i64 0) := z2.at_ rfl
  have p1 : w2.cell? ⟨w.heap.size + 1, 1, none⟩ = some (.slice none 0 0) := z2.at_ rfl
  have p2 : w2.cell? ⟨w.heap.size + 1, 2, none⟩ = some (.slice none 0 0) := z2.at_ rfl
  have p3 : w2.cell? ⟨w.heap.size + 1, 3, none⟩ = some (.bool false) := z2.at_ rfl
  obtain ⟨c0, c1', c2⟩ := hc w2 b2'
  rw [HR.out, HRT.out] at c2
  have lw := b2'.size
  have lz := z2.lt
  clear hc
  have TU := turned_calls l A1 c1 bit w2 rv2.rv (by rw [HLL.out]; omega) (by rw [HLL.out]; omega)
  rw [HLL.out] at TU
  go_wp2_with fail
  refine TU.mono ?_
  clear TU
  rintro e w3 ⟨g3, k3, rfl, own3, b3⟩
  have x3 := x2.below b3 x2.lt
  have z3 := z2.below b3 z2.lt
  have b3' : Below w.heap.size w w3 := b2'.trans (b3.mono b2'.size)
  have l23 := b3.size
  clear q0 q1 q2 q3 p0 p1 p2 p3 c0 c1' c2 x2 z2 b3 rv2
  have q0 : w3.cell? ⟨w.heap.size, 0, none⟩ = some (.int .i64 (d.size : Int)) := x3.at_ rfl
  have q1 : w3.cell? ⟨w.heap.size, 1, none⟩ = some (.slice (some ⟨b, off, none⟩) L.length kL) := x3.at_ rfl
  have q2 : w3.cell? ⟨w.heap.size, 2, none⟩ = some (.slice AW W.length kW) := x3.at_ rfl
  have q3 : w3.cell? ⟨w.heap.size, 3, none⟩ = some (.bool false) := x3.at_ rfl
  have y2 := x3.frozen 1
  have lx := x3.lt
  have lz3 := z3.lt
  have ws := b3'.size
  go_wp2_with ((with_reducible show wpList _ _ _ (⟨some 89, _, _, _, _, _⟩ :: _) _ _); refine wpList_append_rv el_rw rfl (.tmp 86) (.tmp 88) rfl (w.heap.size + 1 + 1) (.slice (some ⟨w3.heap.size + 1, 0, none⟩) 0 0) 0 [] rfl (own_empty' _ _ _ _ (by simp) (by omega)) (some ⟨b, off, none⟩) L.length kL (rC L) rfl (rC_len L) ?e1 (rC_one L) ?e2 ?e3 ?e4 ?_)
  case e1 => exact (hxr.below ((b3'.alloc ws _).alloc (by simp; omega) _)).rv
  case e2 => unfold maxLen; omega
  case e3 => omega
  case e4 => (simp; try omega)
  intro v4 w4 own4 gr4 hv4
  try simp only [Nat.zero_add, List.nil_append] at own4
  obtain ⟨g4, k4, hv4f, hg4, hg4l⟩ := head_of_own own4 (by omega)
  have ne4 : ∀ k, k < w3.heap.size + 1 → some k ≠ (Value.slice (some ⟨w3.heap.size + 1, 0, none⟩) 0 0).ownBlock := fun k hk e => by simp [Value.ownBlock] at e; omega
  have x4 := ((x3.alloc (.cells #[.int .i64 (n : Int), .slice (some ⟨g3, 0, none⟩) d.size k3, .bool true] 70)).alloc (.cells #[] 70)).grown gr4 (ne4 _ (by omega))
  have z4 := ((z3.alloc (.cells #[.int .i64 (n : Int), .slice (some ⟨g3, 0, none⟩) d.size k3, .bool true] 70)).alloc (.cells #[] 70)).grown gr4 (ne4 _ (by omega))
  have r4 := ((Blk.new w3 70 #[.int .i64 (n : Int), .slice (some ⟨g3, 0, none⟩) d.size k3, .bool true]).alloc (.cells #[] 70)).grown gr4 (ne4 _ (by omega))
  have own3' : w4.ownsRow (w.heap.size + 1 + 1) 5 1 (.slice (some ⟨g3, 0, none⟩) d.size k3) d.size (cB (turnBit l bit)) := own_frame (own_mono ((own3.alloc _).alloc _) (by omega)) fun k hk => gr4.block k (by have := own_lt own3 hk; simp; omega) (ne4 k (by have := own_lt own3 hk; omega))
  have b4' : Below w.heap.size w w4 := ((b3'.alloc ws _).alloc (by simp; omega) _).grown gr4 (by simp; omega) (fun k hk => by simp [Value.ownBlock] at hk; omega)
  subst hv4f
  have HX := Lib.hid x4
  have HZ := Lib.hid z4
  have HR4 := Lib.hid r4
  have HO4 := Lib.hid own4
  have HO3 := Lib.hid own3'
  have nr : g4 ≠ w3.heap.size := by
    intro e
    rcases hv4 with h | h
    · simp [Value.ownBlock] at h; omega
    · simp [Value.ownBlock] at h; omega
  have q1' : w4.cell? ⟨w.heap.size, 1, none⟩ = some (.slice (some ⟨b, off, none⟩) L.length kL) := x4.at_ rfl
  have y1 := x4.frozen 1
  clear gr4 hv4 ne4 x3 z3 own3 x4 z4 r4 own4 own3' q0 q1 q2 q3 y2 lx lz3 ws
  go_wp2_with ((with_reducible show wpList _ _ _ (⟨some 91, _, _, _, _, _⟩ :: _) _ _); refine wpList_abs (fun w5 => Blk w5 w.heap.size 51 #[.int .i64 (d.size : Int), .slice (some ⟨g4, 0, none⟩) L.length k4, .slice AW W.length kW, .bool false] ∧ Blk w5 (w.heap.size + 1) 51 #[.int .i64 0, .slice none 0 0, .slice none 0 0, .bool false] ∧ Blk w5 w3.heap.size 70 #[.int .i64 (n : Int), .slice (some ⟨g3, 0, none⟩) d.size k3, .bool true] ∧
      w5.ownsRow (w.heap.size + 1 + 1) 70 3 (.slice (some ⟨g4, 0, none⟩) L.length k4) L.length (rC L) ∧ w5.ownsRow (w.heap.size + 1 + 1) 5 1 (.slice (some ⟨g3, 0, none⟩) d.size k3) d.size (cB (turnBit l bit)) ∧ Below w.heap.size w w5) ?i1 ?_)
  case i1 =>
    refine ⟨HX.out.set_ 1 _, HZ.out.far (by simp) _, HR4.out.far (by show w3.heap.size ≠ w.heap.size; omega) _, own_frame HO4.out fun k hk => heap_setCell_other _ _ _ _ (by have := (own_lt HO4.out hk).1; show k ≠ w.heap.size; omega), own_frame HO3.out fun k hk => heap_setCell_other _ _ _ _ (by have := (own_lt HO3.out hk).1; show k ≠ w.heap.size; omega), b4'.setCell (Nat.le_refl _) _⟩
  rintro w5 ⟨x5, z5, r5, own5, owb5, b5⟩
  clear q1' y1 HX HZ HR4 HO4 HO3 b4' b3'
  obtain ⟨u0, u1, u2, g0, g1, g2⟩ := row_facts own5 (i := n) rfl hnL
  have f0 := own5.frozenAt (n * 3)
  have f1 := own5.frozenAt (n * 3 + 1)
  have f2 := own5.frozenAt (n * 3 + 2)
  have q1 : w5.cell? ⟨w.heap.size, 1, none⟩ = some (.slice (some ⟨g4, 0, none⟩) L.length k4) := x5.at_ rfl
  have m0 : w5.cell? ⟨w3.heap.size, 0, none⟩ = some (.int .i64 (n : Int)) := r5.at_ rfl
  have m1 : w5.cell? ⟨w3.heap.size, 1, none⟩ = some (.slice (some ⟨g3, 0, none⟩) d.size k3) := r5.at_ rfl
  have m2 : w5.cell? ⟨w3.heap.size, 2, none⟩ = some (.bool true) := r5.at_ rfl
  have HX := Lib.hid x5
  have HZ := Lib.hid z5
  have HO5 := Lib.hid own5
  have HB5 := Lib.hid owb5
  have e34 : g3 ≠ g4 := own_ne2 owb5 rfl own5 rfl (by decide)
  clear x5 z5 r5 own5 owb5
  go_wp2_with ((with_reducible show wpList _ _ _ (⟨some 96, _, _, _, _, _⟩ :: _) _ _); refine wpList_abs (fun w6 => Blk w6 w.heap.size 51 #[.int .i64 (d.size : Int), .slice (some ⟨g4, 0, none⟩) L.length k4, .slice AW W.length kW, .bool false] ∧ Blk w6 (w.heap.size + 1) 51 #[.int .i64 0, .slice none 0 0, .slice none 0 0, .bool false] ∧
      w6.ownsRow (w.heap.size + 1 + 1) 70 3 (.slice (some ⟨g4, 0, none⟩) L.length k4) L.length (rC (L.set n ⟨(n : Int), some ⟨g3, 0, none⟩, d.size, k3, true⟩)) ∧ w6.ownsRow (w.heap.size + 1 + 1) 5 1 (.slice (some ⟨g3, 0, none⟩) d.size k3) d.size (cB (turnBit l bit)) ∧ Below w.heap.size w w6) ?j1 ?_)
  case j1 => exact set3_ok (n : Int) (some ⟨g3, 0, none⟩) d.size k3 true HX.out HZ.out HO5.out HB5.out b5 hg4 e34 hnL _ rfl
  rintro w6 ⟨x6, z6, own6, owb6, b6⟩
  clear q1 m0 m1 m2 HX HZ HO5 HB5 g0 g1 g2 f0 f1 f2 b5 e34
  have hFb : ∀ k, (F k ∨ k = w.heap.size ∨ k = w.heap.size + 1) → k < w.heap.size + 1 + 1 := fun k hk => by rcases hk with hk | hk | hk; (have := hF k hk; omega); omega; omega
  have hG0 : RefOK w (fun k => F k ∨ k = w.heap.size ∨ k = w.heap.size + 1) ⟨(some ⟨b, off, none⟩), kL, L, AW, kW, W⟩ d := h.mono fun k hk hg => by rcases hg with hg | hg | hg; exact hg; omega; omega
  have hG := hG0.below b6
  have hwo6 : WrOK w6 (fun k => F k ∨ k = w.heap.size ∨ k = w.heap.size + 1) d.size ⟨(n : Int), some ⟨g3, 0, none⟩, d.size, k3, true⟩ (s.turn bit) := by
    have : (s.turn bit).bytes = some (turnBit l bit) := by unfold Sect.turn; rw [HS.out]; rfl
    unfold WrOK
    rw [this]
    refine ⟨rfl, ?_, rfl, RVF.of_own owb6 hFb⟩
    have := owb6.1
    rw [cB_len] at this
    omega
  have hm : RefOK w6 (fun k => F k ∨ k = w.heap.size ∨ k = w.heap.size + 1) ⟨some ⟨g4, 0, none⟩, k4, L.set n ⟨(n : Int), some ⟨g3, 0, none⟩, d.size, k3, true⟩, AW, kW, W⟩ { d with last := d.last.set n (s.turn bit) } :=
    { lr := by
        have := RVF.of_own own6 hFb
        exact this
      wr := hG.wr
      lo := hG.lo.set n hwo6
      wo := hG.wo
      s1 := h.s1
      s2 := h.s2
      l1 := by show 1 ≤ (d.last.set n (s.turn bit)).length; rw [List.length_set]; exact h.l1
      l2 := by show (d.last.set n (s.turn bit)).length ≤ 65536; rw [List.length_set]; exact h.l2
      ww := fun x hx => by show x.1 < (d.last.set n (s.turn bit)).length; rw [List.length_set]; exact h.ww x hx }
  have hS : d.rotted n bit = { d with last := d.last.set n (s.turn bit) } := by
    unfold Dsk.rotted
    rw [HI0.out]
    simp only [modify_set (Sect.turn · bit) HSI.out]
  have hend : ∀ w7, Kept (fun k => k = w.heap.size ∨ k = w.heap.size + 1) w6 w7 → RetRef2 w F 0 (d.rotted n bit) (.returned (.tuple #[.agg #[.int .i64 (d.size : Int), .slice (some ⟨g4, 0, none⟩) L.length k4, .slice AW W.length kW, .bool false], .int .i64 0])) w7 := by
    intro w7 hk7
    rw [hS]
    refine ⟨_, ?_, (hm.kept (hk7.mono fun _ _ h => .inr h)).mono (fun _ _ hf => .inl hf), b6.trans (hk7.below (fun k _ hk => by rcases hk with rfl | rfl; exact Nat.le_refl _; exact Nat.le_succ _) b6.size)⟩
    unfold Ref.val
    simp only [HO.out, List.length_set]
  have HEND := Lib.hid hend
  have p0 : w6.cell? ⟨w.heap.size + 1, 0, none⟩ = some (.int .i64 0) := z6.at_ rfl
  have p1 : w6.cell? ⟨w.heap.size + 1, 1, none⟩ = some (.slice none 0 0) := z6.at_ rfl
  have p2 : w6.cell? ⟨w.heap.size + 1, 2, none⟩ = some (.slice none 0 0) := z6.at_ rfl
  have p3 : w6.cell? ⟨w.heap.size + 1, 3, none⟩ = some (.bool false) := z6.at_ rfl
  have t0 := z6.frozen 0
  have t1 := z6.frozen 1
  have t2 := z6.frozen 2
  have t3 := z6.frozen 3
  have s0 : w6.cell? ⟨w.heap.size, 0, none⟩ = some (.int .i64 (d.size : Int)) := x6.at_ rfl
  have s1 : w6.cell? ⟨w.heap.size, 1, none⟩ = some (.slice (some ⟨g4, 0, none⟩) L.length k4) := x6.at_ rfl
  have s2 : w6.cell? ⟨w.heap.size, 2, none⟩ = some (.slice AW W.length kW) := x6.at_ rfl
  have s3 : w6.cell? ⟨w.heap.size, 3, none⟩ = some (.bool false) := x6.at_ rfl
  clear x6 z6 own6 owb6 hFb hG0 hG hwo6 hm hS hend h hxr
  go_wp2
  refine bodyPost_ret (v := .tuple #[.agg #[.int .i64 (d.size : Int), .slice (some ⟨g4, 0, none⟩) L.length k4, .slice AW W.length kW, .bool false], .int .i64 0]) (by simp [results, Try.results28, go_sem, p0, p1, p2, p3]) rfl (HEND.out _ ?_)
  repeat (first | exact Kept.refl _ _ | refine Kept.setCell ?_ (.inl (.inl rfl)) _ | refine Kept.setCell ?_ (.inl (.inr rfl)) _)
theorem rrot_read (m : Ref) (d : Dsk) (F : Nat → Prop) (n bit : Nat) (w : World) (h : RefOK w F m d) (hw : d.wait.length ≤ 1000000) (hn : n < d.last.length) (hbit : bit < 8 * d.size) (hE0 : d.readE n ≠ 0) :
    Calls Try.prog 28 #[m.val d.size d.off, .int .i64 (n : Int), .int .i64 (bit : Int)] w (RetRef2 w F (d.readE n) d) := by
  have RD := fun (w2 : World) (b2 : Below w.heap.size w w2) => rread_calls m d F (n : Int) w2 (h.below b2) (by omega)
  have hRL : d.readL n = [] := by unfold DiskP.Dsk.readL; rw [if_neg hE0]
  have hG : RefOK w (fun k => F k ∨ k = w.heap.size ∨ k = w.heap.size + 1) m d := h.mono fun k hk hg => by rcases hg with hg | hg | hg; exact hg; omega; omega
  obtain ⟨AL, kL, L, AW, kW, W⟩ := m
  have hLl : L.length = d.last.length := h.lo.len
  have hl2 := h.l2
  have hs2 := h.s2
  have d0 : decide ((n : Int) < 0) = false := by simp
  have d1 : decide ((L.length : Int) ≤ (n : Int)) = false := by simp; omega
  have d1' : decide (L.length ≤ n) = false := by simp; omega
  have d2 : decide ((bit : Int) < 0) = false := by simp
  have d3 : decide (8 * (d.size : Int) ≤ (bit : Int)) = false := by simp; omega
  have hE1 : (d.readE n != 0) = true := by simpa using hE0
  have HRL := Lib.hid hRL
  have HLl := Lib.hid hLl
  have hL2 : L.length ≤ 65536 := by omega
  clear hLl hRL hE0
  unfold Ref.val at RD ⊢
  have B0 : ∀ o o' : Obj, Below w.heap.size w ((w.alloc o).alloc o') := fun o o' => ((Below.refl _ _).alloc (Nat.le_refl _) _).alloc (by simp) _
  generalize hkk : d.readE n = kk at *
  have HKK := Lib.hid hkk
  clear hkk
  go_enter Try.func28, Try.ntmps28
  go_wp2_with fail
  refine (RD _ (B0 _ _)).mono ?_
  rintro e w1 ⟨A1, c1, rfl, rv1, b1⟩
  rw [HRL.out, HKK.out]
  have x1 : Blk w1 w.heap.size 51 #[.int .i64 (d.size : Int), .slice AL L.length kL, .slice AW W.length kW, .bool d.off] := ((Blk.new w _ _).alloc _).below b1 (by simp; try omega)
  have z1 : Blk w1 (w.heap.size + 1) 51 #[.int .i64 0, .slice none 0 0, .slice none 0 0, .bool false] := by
    have := (Blk.new (w.alloc (.cells #[.int .i64 (d.size : Int), .slice AL L.length kL, .slice AW W.length kW, .bool d.off] 51)) 51 #[.int .i64 0, .slice none 0 0, .slice none 0 0, .bool false]).below b1 (by simp)
    rw [World.size_alloc] at this
    exact this
  have b1' : Below w.heap.size w w1 := (B0 _ _).trans (b1.mono (by simp; omega))
  have q0 : w1.cell? ⟨w.heap.size, 0, none⟩ = some (.int .i64 (d.size : Int)) := x1.at_ rfl
  have q1 : w1.cell? ⟨w.heap.size, 1, none⟩ = some (.slice AL L.length kL) := x1.at_ rfl
  have q2 : w1.cell? ⟨w.heap.size, 2, none⟩ = some (.slice AW W.length kW) := x1.at_ rfl
  have q3 : w1.cell? ⟨w.heap.size, 3, none⟩ = some (.bool d.off) := x1.at_ rfl
  have p0 : w1.cell? ⟨w.heap.size + 1, 0, none⟩ = some (.int .i64 0) := z1.at_ rfl
  have p1 : w1.cell? ⟨w.heap.size + 1, 1, none⟩ = some (.slice none 0 0) := z1.at_ rfl
  have p2 : w1.cell? ⟨w.heap.size + 1, 2, none⟩ = some (.slice none 0 0) := z1.at_ rfl
  have p3 : w1.cell? ⟨w.heap.size + 1, 3, none⟩ = some (.bool false) := z1.at_ rfl
  have t0 := z1.frozen 0
  have t1 := z1.frozen 1
  have t2 := z1.frozen 2
  have t3 := z1.frozen 3
  have hend : ∀ w3, Kept (fun k => k = w.heap.size ∨ k = w.heap.size + 1) w1 w3 → RetRef2 w F kk d (.returned (.tuple #[Ref.val ⟨AL, kL, L, AW, kW, W⟩ d.size d.off, .int .i64 kk])) w3 := by
    intro w3 hk3
    exact ⟨_, rfl, ((hG.below b1').kept (hk3.mono fun _ _ h => .inr h)).mono (fun _ _ hf => .inl hf), b1'.trans (hk3.below (fun k _ hk => by rcases hk with rfl | rfl; exact Nat.le_refl _; exact Nat.le_succ _) b1'.size)⟩
  have HEND := Lib.hid hend
  clear hG hend x1 z1 rv1 h RD b1
  go_wp2
  refine bodyPost_ret (v := .tuple #[Ref.val ⟨AL, kL, L, AW, kW, W⟩ d.size d.off, .int .i64 kk]) (by simp [results, Try.results28, go_sem, Ref.val, p0, p1, p2, p3]) rfl (HEND.out _ ?_)
  repeat (first | exact Kept.refl _ _ | refine Kept.setCell ?_ (.inl (.inl rfl)) _ | refine Kept.setCell ?_ (.inl (.inr rfl)) _)
theorem rrot_calls (m : Ref) (d : Dsk) (F : Nat → Prop) (n bit : Int) (w : World) (h : RefOK w F m d) (hF : ∀ k, F k → k < w.heap.size) (hw : d.wait.length ≤ 1000000) :
    Calls Try.prog 28 #[m.val d.size d.off, .int .i64 n, .int .i64 bit] w (RetRef2 w F (d.rotE n bit) (d.rotS n bit)) := by
  by_cases hno : d.has n = false ∨ bit < 0 ∨ 8 * (d.size : Int) ≤ bit
  · exact rrot_no m d F n bit w h hno
  · have hh : d.has n = true := by
      cases hh : d.has n
      · exact absurd (.inl hh) hno
      · rfl
    have hb1 : 0 ≤ bit := by
      rcases Int.lt_or_le bit 0 with h | h
      · exact absurd (.inr (.inl h)) hno
      · exact h
    have hb2 : bit < 8 * (d.size : Int) := by
      rcases Int.lt_or_le bit (8 * (d.size : Int)) with h | h
      · exact h
      · exact absurd (.inr (.inr h)) hno
    obtain ⟨h0, h1⟩ : 0 ≤ n ∧ n < d.last.length := by simpa [Dsk.has] using hh
    obtain ⟨n, rfl⟩ := Int.eq_ofNat_of_zero_le h0
    obtain ⟨bit, rfl⟩ := Int.eq_ofNat_of_zero_le hb1
    have hn : n < d.last.length := by omega
    have hbit : bit < 8 * d.size := by omega
    have hE := rotE_of hh hb1 hb2
    rw [Int.toNat_natCast] at hE
    by_cases hE0 : d.readE n = 0
    · rw [if_pos hE0] at hE
      obtain ⟨s, ht⟩ : ∃ s, d.told[n]? = some s := by
        have : n < d.told.length := by unfold Dsk.told; rw [applyW_length]; exact hn
        exact ⟨_, List.getElem?_eq_getElem this⟩
      have ho : d.off = false := by
        cases ho : d.off
        · rfl
        · have : d.readE n = 10 := by unfold Dsk.readE; rw [hh, ho]; rfl
          rw [this] at hE0; cases hE0
      have hsb := readE_at hh ho ht
      obtain ⟨l, hs⟩ : ∃ l, s.bytes = some l := by
        cases hs : s.bytes with
        | none => rw [hs, hE0] at hsb; cases hsb
        | some l => exact ⟨l, rfl⟩
      rw [ht] at hE
      simp only at hE
      cases hi : lastIdx d.wait n with
      | some i =>
        obtain ⟨y, hy⟩ := lastIdx_lt hi
        have hys : y = s := by have := told_some hn hi hy; rw [ht] at this; injection this with this; exact this.symm
        subst hys
        have hil : i < m.W.length := by rw [h.wo.len]; exact (List.getElem?_eq_some_iff.1 hy).1
        have hll : l.length = d.size := by
          have := (h.wo.at_ i _ _ (List.getElem?_eq_getElem hil) hy).2.2
          rw [hs] at this
          exact this.1
        cases hrt : y.rot
        · rw [hrt] at hE
          have hE' : d.rotE n bit = 0 := hE
          have hS : d.rotS n bit = d.rotted n bit := by unfold DiskP.Dsk.rotS; rw [hE', if_pos rfl]; rfl
          rw [hE', hS]
          exact rrot_wait_n m d F n bit w h hF hw hn hbit ho y l hs ht hll i hi hy hrt
        · rw [hrt] at hE
          have hE' : d.rotE n bit = 11 := hE
          have hS : d.rotS n bit = d := by unfold DiskP.Dsk.rotS; rw [hE']; rfl
          rw [hE', hS]
          exact rrot_wait_y m d F n bit w h hF hw hn hbit ho y l hs ht hll i hi hy hrt
      | none =>
        have hy : d.last[n]? = some s := by rw [← ht, told_none hn hi]; exact List.getElem?_eq_getElem hn
        have hil : n < m.L.length := by rw [h.lo.len]; exact hn
        have hll : l.length = d.size := by
          have := (h.lo.at_ n _ _ (List.getElem?_eq_getElem hil) hy).2
          rw [hs] at this
          exact this.1
        cases hrt : s.rot
        · rw [hrt] at hE
          have hE' : d.rotE n bit = 0 := hE
          have hS : d.rotS n bit = d.rotted n bit := by unfold DiskP.Dsk.rotS; rw [hE', if_pos rfl]; rfl
          rw [hE', hS]
          exact rrot_last_n m d F n bit w h hF hw hn hbit ho s l hs ht hll hi hy hrt
        · rw [hrt] at hE
          have hE' : d.rotE n bit = 11 := hE
          have hS : d.rotS n bit = d := by unfold DiskP.Dsk.rotS; rw [hE']; rfl
          rw [hE', hS]
          exact rrot_last_y m d F n bit w h hF hw hn hbit ho s l hs ht hll hi hy hrt
    · rw [if_neg hE0] at hE
      have hS : d.rotS n bit = d := by unfold DiskP.Dsk.rotS; rw [hE, if_neg hE0]
      rw [hE, hS]
      exact rrot_read m d F n bit w h hw hn hbit hE0
end Go.Proofs.Ytmemkoiooanhkaa
