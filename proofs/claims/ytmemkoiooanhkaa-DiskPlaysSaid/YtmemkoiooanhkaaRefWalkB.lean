/-
  The walks of the document's disk: Put.
-/
import Derived.Test.YtmemkoiooanhkaaRefWalkA
namespace Go.Proofs.Ytmemkoiooanhkaa
open Go.RowKit DiskP

/-- It gives a disk back, and an error. -/
def RetRef2 (w : World) (F : Nat → Prop) (k : Int) (S : Dsk) (e : Ending) (w' : World) : Prop :=
  ∃ m : Ref, e = .returned (.tuple #[m.val S.size S.off, .int .i64 k]) ∧ RefOK w' F m S ∧ Below w.heap.size w w'
theorem Blk.grown {w w' : World} {g : Nat} {t : TypeId} {cs : Array Value} {row : Option Nat} (h : Blk w g t cs) (hg : w.grownBy w' row) (hne : some g ≠ row) : Blk w' g t cs := (hg.block g h.lt hne).trans h
theorem own_empty' (w : World) {base : Nat} (e : TypeId) (size k : Nat) (hk : w.heap.size = k) (hb : base ≤ k) : (w.alloc (.cells #[] e)).ownsRow base e size (.slice (some ⟨k, 0, none⟩) 0 0) 0 [] := by
  subst hk; exact own_empty w e size hb
theorem put_no (m : Ref) (d : Dsk) (F : Nat → Prop) (n : Int) (l : List UInt8) (A : Option Addr) (cap : Nat) (w : World) (h : RefOK w F m d) (hl : l.length ≤ 9223372036854775807) (hno : d.writeE n l ≠ 0) :
    Calls Try.prog 24 #[m.val d.size d.off, .int .i64 n, .slice A l.length cap] w (RetRef2 w F (d.writeE n l) d) := by
  obtain ⟨AL, kL, L, AW, kW, W⟩ := m
  have hlen : L.length = d.last.length := h.lo.len
  have hl2 := h.l2
  have hs2 := h.s2
  have hb : ∀ o o' : Obj, Below w.heap.size w ((w.alloc o).alloc o') := fun o o' => ((Below.refl _ _).alloc (Nat.le_refl _) _).alloc (by simp) _
  have hend : ∀ (o o' : Obj) (k : Int), d.writeE n l = k → RetRef2 w F (d.writeE n l) d (.returned (.tuple #[Ref.val ⟨AL, kL, L, AW, kW, W⟩ d.size d.off, .int .i64 k])) ((w.alloc o).alloc o') :=
    fun o o' k hk => ⟨⟨AL, kL, L, AW, kW, W⟩, by rw [hk], h.below (hb _ _), hb _ _⟩
  by_cases hh : d.has n = true
  · have hr : 0 ≤ n ∧ n < d.last.length := by simpa [Dsk.has] using hh
    have d0 : decide (n < 0) = false := by simp; omega
    have d1 : decide ((L.length : Int) ≤ n) = false := by simp; omega
    by_cases hls : l.length = d.size
    · have ho : d.off = true := by
        cases ho : d.off
        · exfalso; apply hno; unfold Dsk.writeE; rw [hh, ho]; simp [hls]
        · rfl
      have HE : Hid (d.writeE n l = 10) := by show _ = _; unfold Dsk.writeE; rw [hh, ho]; simp [hls]
      have e1 : ((l.length : Int) != (d.size : Int)) = false := by simp; omega
      have HO := Lib.hid ho
      have HEND := Lib.hid (fun o o' => hend o o' 10 HE.out)
      rw [ho] at HEND
      generalize d.writeE n l = k at *
      rw [hls, ho]
      clear hno hh hls ho hlen hend h HE
      unfold Ref.val
      go_enter Try.func24, Try.ntmps24
      go_wp2
      refine bodyPost_ret (v := .tuple #[Ref.val ⟨AL, kL, L, AW, kW, W⟩ d.size true, .int .i64 10]) (by simp [results, Try.results24, go_sem, Ref.val]) rfl (HEND.out _ _)
    · have HE : Hid (d.writeE n l = 1) := by show _ = _; unfold Dsk.writeE; rw [hh]; simp [hls]
      have e1 : ((l.length : Int) != (d.size : Int)) = true := by simp; omega
      have HEND := Lib.hid (fun o o' => hend o o' 1 HE.out)
      generalize d.writeE n l = k at *
      clear hno hh hlen hend h HE
      unfold Ref.val
      go_enter Try.func24, Try.ntmps24
      go_wp2
      refine bodyPost_ret (v := .tuple #[Ref.val ⟨AL, kL, L, AW, kW, W⟩ d.size d.off, .int .i64 1]) (by simp [results, Try.results24, go_sem, Ref.val]) rfl (HEND.out _ _)
  · have hh : d.has n = false := by simpa using hh
    have HE : Hid (d.writeE n l = 1) := by show _ = _; unfold Dsk.writeE; rw [hh]; simp
    have HEND := Lib.hid (fun o o' => hend o o' 1 HE.out)
    generalize d.writeE n l = k at *
    have hh2 : 0 ≤ n → (d.last.length : Int) ≤ n := by simpa [Dsk.has] using hh
    by_cases h0 : n < 0
    · have d0 : decide (n < 0) = true := by simpa using h0
      clear hno hh hlen hend h HE hh2
      unfold Ref.val
      go_enter Try.func24, Try.ntmps24
      go_wp2
      refine bodyPost_ret (v := .tuple #[Ref.val ⟨AL, kL, L, AW, kW, W⟩ d.size d.off, .int .i64 1]) (by simp [results, Try.results24, go_sem, Ref.val]) rfl (HEND.out _ _)
    · have d0 : decide (n < 0) = false := by simpa using h0
      have d1 : decide ((L.length : Int) ≤ n) = true := by have := hh2 (by omega); simp; omega
      clear hno hh hlen hend h HE hh2
      unfold Ref.val
      go_enter Try.func24, Try.ntmps24
      go_wp2
      refine bodyPost_ret (v := .tuple #[Ref.val ⟨AL, kL, L, AW, kW, W⟩ d.size d.off, .int .i64 1]) (by simp [results, Try.results24, go_sem, Ref.val]) rfl (HEND.out _ _)
set_option maxHeartbeats 800000 in
theorem put_yes (m : Ref) (d : Dsk) (F : Nat → Prop) (n : Nat) (l : List UInt8) (A : Option Addr) (cap : Nat) (w : World) (h : RefOK w F m d) (hF : ∀ k, F k → k < w.heap.size) (hR : RB w A l)
    (hn : n < d.last.length) (hl : l.length = d.size) (ho : d.off = false) (hw : d.wait.length ≤ 1000000) :
    Calls Try.prog 24 #[m.val d.size d.off, .int .i64 (n : Int), .slice A d.size cap] w (RetRef2 w F 0 (d.write n l)) := by
  rw [ho]
  obtain ⟨AL, kL, L, AW, kW, W⟩ := m
  have hlen : L.length = d.last.length := h.lo.len
  have hwl : W.length = d.wait.length := h.wo.len
  have hl2 := h.l2
  have hs2 := h.s2
  have hwr : RVF w F AW (rC W) := h.wr
  have d0 : decide ((n : Int) < 0) = false := by simp
  have d1 : decide ((L.length : Int) ≤ (n : Int)) = false := by simp; omega
  have d1' : decide (L.length ≤ n) = false := by simp; omega
  have hW : W.length ≤ 1000000 := by omega
  have HL := Lib.hid hlen
  have HW := Lib.hid hwl
  have HS := Lib.hid hl
  have HO := Lib.hid ho
  clear hlen hwl hl ho
  unfold Ref.val
  go_enter Try.func24, Try.ntmps24
  go_wp2_with ((with_reducible show wpList _ _ _ (⟨some 31, _, _, _, _, _⟩ :: _) _ _); refine wpList_append_rv el_rw rfl (.tmp 28) (.tmp 30) rfl (w.heap.size + 1 + 1) (.slice (some ⟨w.heap.size + 1 + 1, 0, none⟩) 0 0) 0 [] rfl (own_empty' _ _ _ _ (by simp) (by omega)) AW W.length kW (rC W) rfl (rC_len W) ?e1 (rC_one W) ?e2 ?e3 ?e4 ?_)
  case e1 => exact (hwr.below ((((Below.refl _ _).alloc (Nat.le_refl _) _).alloc (by simp) _).alloc (by simp; omega) _)).rv
  case e2 => unfold maxLen; omega
  case e3 => omega
  case e4 => (simp; try omega)
  intro v1 w1 own1 gr1 hv1
  try simp only [Nat.zero_add, List.nil_append] at own1
  obtain ⟨A1, k1, hv1f, _, _⟩ := own_form own1
  have b1 : Below w.heap.size w w1 := ((((Below.refl _ _).alloc (Nat.le_refl _) _).alloc (by simp) _).alloc (by simp; omega) _).grown gr1 (by simp; omega) (fun k hk => by simp [Value.ownBlock] at hk; omega)
  have x1 : Blk w1 w.heap.size 51 _ := (((Blk.new w _ _).alloc _).alloc _).grown gr1 (by simp [Value.ownBlock]; try omega)
  have z1 : Blk w1 (w.heap.size + 1) 51 #[.int .i64 0, .slice none 0 0, .slice none 0 0, .bool false] := by
    have : Blk _ (w.alloc (.cells #[.int .i64 (d.size : Int), .slice AL L.length kL, .slice AW W.length kW, .bool false] 51)).heap.size _ _ := (Blk.new _ 51 #[.int .i64 0, .slice none 0 0, .slice none 0 0, .bool false]).alloc (.cells #[] 70)
    rw [World.size_alloc] at this
    exact this.grown gr1 (by simp [Value.ownBlock]; try omega)
  have s1 := z1.lt
  clear gr1 hv1
  subst hv1f
  go_wp2_with ((with_reducible show wpList _ _ _ (⟨some 35, _, _, _, _, _⟩ :: _) _ _); refine wpList_append_rv el_u8 rfl (.tmp 33) (.tmp 34) rfl (w.heap.size + 1 + 1) (.slice (some ⟨w1.heap.size, 0, none⟩) 0 0) 0 [] rfl (own_empty _ _ _ (by omega)) A d.size cap (cB l) rfl (by rw [cB_len, HS.out]; omega) ?f1 (cB_one l) ?f2 ?f3 ?f4 ?_)
  case f1 => exact RV.below hR (b1.alloc b1.size _)
  case f2 => unfold maxLen; omega
  case f3 => omega
  case f4 => (simp; try omega)
  intro v2 w2 own2 gr2 hv2
  try simp only [Nat.zero_add, List.nil_append] at own2
  obtain ⟨A2, k2, hv2f, _, _⟩ := own_form own2
  have b2 : Below w.heap.size w w2 := (b1.alloc b1.size _).grown gr2 (by simp; omega) (fun k hk => by simp [Value.ownBlock] at hk; omega)
  have x2 := (x1.alloc (.cells #[] 5)).grown gr2 (by simp [Value.ownBlock]; omega)
  have z2 := (z1.alloc (.cells #[] 5)).grown gr2 (by simp [Value.ownBlock]; omega)
  have own1' : w2.ownsRow (w.heap.size + 1 + 1) 70 3 (.slice A1 W.length k1) W.length (rC W) := own_frame (own1.alloc (.cells #[] 5)) fun k hk => gr2.block k (by have := own_lt own1 hk; simp; omega) (by have := own_lt own1 hk; simp [Value.ownBlock]; omega)
  have s2 := z2.lt
  clear gr2 hv2 own1 x1 z1
  subst hv2f
  have rv3 : RV (w2.alloc (.cells #[.int .i64 (n : Int), .slice A2 d.size k2, .bool false] 70)) (some ⟨w2.heap.size, 0, none⟩) [.int .i64 (n : Int), .slice A2 d.size k2, .bool false] := RV.new w2 [.int .i64 (n : Int), .slice A2 d.size k2, .bool false] 70 (0, 0)
  go_wp2_with ((with_reducible show wpList _ _ _ (⟨some 38, _, _, _, _, _⟩ :: _) _ _); refine wpList_append_rv el_rw rfl (.tmp 31) (.tmp 37) rfl (w.heap.size + 1 + 1) (.slice A1 W.length k1) W.length (rC W) rfl (own1'.alloc _) (some ⟨w2.heap.size, 0, none⟩) 1 1 [.int .i64 (n : Int), .slice A2 d.size k2, .bool false] rfl rfl rv3 ?g1 ?g2 ?g3 ?g4 ?_)
  case g1 => exact rC_one [⟨n, A2, d.size, k2, false⟩]
  case g2 => unfold maxLen; omega
  case g3 => omega
  case g4 => (simp; try omega)
  intro v3 w3 own3 gr3 hv3
  obtain ⟨A3, k3, hv3f, _, _⟩ := own_form own3
  have b3 : Below w.heap.size w w3 := (b2.alloc b2.size _).grown gr3 (by simp; omega) (fun k hk => by have := (own_lt own1' hk).1; omega)
  have x3 := (x2.alloc (.cells #[.int .i64 (n : Int), .slice A2 d.size k2, .bool false] 70)).grown gr3 (fun e => by have := (own_lt own1' e.symm).1; omega)
  have z3 := (z2.alloc (.cells #[.int .i64 (n : Int), .slice A2 d.size k2, .bool false] 70)).grown gr3 (fun e => by have := (own_lt own1' e.symm).1; omega)
  have own2' : w3.ownsRow (w.heap.size + 1 + 1) 5 1 (.slice A2 d.size k2) d.size (cB l) := own_frame (own2.alloc (.cells #[.int .i64 (n : Int), .slice A2 d.size k2, .bool false] 70)) fun k hk => gr3.block k (by have := own_lt own2 hk; simp; omega) (fun e => own_ne2 own2 hk own1' e.symm (by decide) rfl)
  clear gr3 hv3 own1' own2 x2 z2 rv3
  subst hv3f
  have hG : RefOK w (fun k => F k ∨ k = w.heap.size ∨ k = w.heap.size + 1) ⟨AL, kL, L, AW, kW, W⟩ d := h.mono fun k hk hg => by rcases hg with hg | hg | hg; exact hg; omega; omega
  have hG3 := hG.below b3
  have hFb : ∀ k, (F k ∨ k = w.heap.size ∨ k = w.heap.size + 1) → k < w.heap.size + 1 + 1 := fun k hk => by rcases hk with hk | hk | hk; (have := hF k hk; omega); omega; omega
  have hm : RefOK w3 (fun k => F k ∨ k = w.heap.size ∨ k = w.heap.size + 1) ⟨AL, kL, L, A3, k3, W ++ [⟨(n : Int), A2, d.size, k2, false⟩]⟩ (d.write n l) :=
    { lr := hG3.lr
      wr := by
        have := RVF.of_own own3 hFb
        rw [show [Value.int .i64 (n : Int), .slice A2 d.size k2, .bool false] = rC [⟨(n : Int), A2, d.size, k2, false⟩] from rfl, ← rC_append] at this
        exact this
      lo := hG3.lo
      wo := hG3.wo.snoc (x := (n, ⟨some l, false⟩)) rfl ⟨rfl, HS.out, rfl, RVF.of_own own2' hFb⟩
      s1 := h.s1
      s2 := h.s2
      l1 := h.l1
      l2 := h.l2
      ww := fun x hx => by
        simp only [Dsk.write, List.mem_append, List.mem_singleton] at hx
        rcases hx with hx | rfl
        · exact h.ww x hx
        · exact hn }
  have hend : ∀ (u0 u1 u2 u3 u4 : Value), RetRef2 w F 0 (d.write n l) (.returned (.tuple #[Ref.val ⟨AL, kL, L, A3, k3, W ++ [⟨(n : Int), A2, d.size, k2, false⟩]⟩ d.size false, .int .i64 0])) (((((w3.setCell ⟨w.heap.size, 2, none⟩ u0).setCell ⟨w.heap.size + 1, 0, none⟩ u1).setCell ⟨w.heap.size + 1, 1, none⟩ u2).setCell ⟨w.heap.size + 1, 2, none⟩ u3).setCell ⟨w.heap.size + 1, 3, none⟩ u4) := by
    intro u0 u1 u2 u3 u4
    refine ⟨_, by rw [show (d.write n l).off = false from HO.out]; rfl, (hm.kept (((((Kept.refl _ _).setCell (.inl (.inr (.inl rfl))) _).setCell (.inl (.inr (.inr rfl))) _).setCell (.inl (.inr (.inr rfl))) _).setCell (.inl (.inr (.inr rfl))) _ |>.setCell (.inl (.inr (.inr rfl))) _)).mono (fun _ _ hf => .inl hf), ?_⟩
    exact ((((b3.setCell (Nat.le_refl _) _).setCell (Nat.le_succ _) _).setCell (Nat.le_succ _) _).setCell (Nat.le_succ _) _).setCell (Nat.le_succ _) _
  have HEND := Lib.hid hend
  clear hG hG3 hFb hm hend own2' own3
  have q0 : w3.cell? ⟨w.heap.size, 0, none⟩ = some (.int .i64 (d.size : Int)) := x3.at_ (i := 0) rfl
  have q1 : w3.cell? ⟨w.heap.size, 1, none⟩ = some (.slice AL L.length kL) := x3.at_ (i := 1) rfl
  have q2 : w3.cell? ⟨w.heap.size, 2, none⟩ = some (.slice AW W.length kW) := x3.at_ (i := 2) rfl
  have q3 : w3.cell? ⟨w.heap.size, 3, none⟩ = some (.bool false) := x3.at_ (i := 3) rfl
  have p0 : w3.cell? ⟨w.heap.size + 1, 0, none⟩ = some (.int .i64 0) := z3.at_ (i := 0) rfl
  have p1 : w3.cell? ⟨w.heap.size + 1, 1, none⟩ = some (.slice none 0 0) := z3.at_ (i := 1) rfl
  have p2 : w3.cell? ⟨w.heap.size + 1, 2, none⟩ = some (.slice none 0 0) := z3.at_ (i := 2) rfl
  have p3 : w3.cell? ⟨w.heap.size + 1, 3, none⟩ = some (.bool false) := z3.at_ (i := 3) rfl
  have y2 := x3.frozen 2
  have t0 := z3.frozen 0
  have t1 := z3.frozen 1
  have t2 := z3.frozen 2
  have t3 := z3.frozen 3
  clear x3 z3
  go_wp2
  refine bodyPost_ret (v := .tuple #[Ref.val ⟨AL, kL, L, A3, k3, W ++ [⟨(n : Int), A2, d.size, k2, false⟩]⟩ d.size false, .int .i64 0]) (by simp [results, Try.results24, go_sem, Ref.val, p0, p1, p2, p3]) rfl (HEND.out _ _ _ _ _)
theorem put_calls (m : Ref) (d : Dsk) (F : Nat → Prop) (n : Int) (l : List UInt8) (A : Option Addr) (cap : Nat) (w : World) (h : RefOK w F m d) (hF : ∀ k, F k → k < w.heap.size) (hR : RB w A l) (hl : l.length ≤ 9223372036854775807) (hw : d.wait.length ≤ 1000000) :
    Calls Try.prog 24 #[m.val d.size d.off, .int .i64 n, .slice A l.length cap] w (RetRef2 w F (d.writeE n l) (d.writeS n l)) := by
  by_cases hno : d.writeE n l = 0
  · have hS : d.writeS n l = d.write n.toNat l := if_pos hno
    rw [hS, hno]
    unfold Dsk.writeE at hno
    cases hh : d.has n
    · rw [hh] at hno; simp at hno
    · rw [hh] at hno
      obtain ⟨hn0, hn1⟩ : 0 ≤ n ∧ n < d.last.length := by simpa [Dsk.has] using hh
      obtain ⟨n, rfl⟩ := Int.eq_ofNat_of_zero_le hn0
      have hlen : l.length = d.size := by
        rcases Classical.em (l.length = d.size) with h | h
        · exact h
        · simp [h] at hno
      have hoff : d.off = false := by
        cases ho : d.off
        · rfl
        · simp [ho, hlen] at hno
      rw [hlen, Int.toNat_natCast]
      exact put_yes m d F n l A cap w h hF hR (by omega) hlen hoff hw
  · have hS : d.writeS n l = d := if_neg hno
    rw [hS]
    exact put_no m d F n l A cap w h hl hno
end Go.Proofs.Ytmemkoiooanhkaa
