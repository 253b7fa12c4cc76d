/-
  The walk of the statement DiskPlays: it returns true and changes nothing that was there.
-/
import Derived.Test.YtmemkoiooanhkaaRefPlayD
namespace Go.Proofs.Ytmemkoiooanhkaa
open Go.RowKit DiskP

/-- Both disks, in the midst of the acts. -/
def Playing (w0 : World) (D g k : Nat) (wr : World) : Prop :=
  ∃ (y : Lay) (m : Ref) (AL : Option Addr) (nL kL : Nat) (AW : Option Addr) (nW kW : Nat) (sz : Nat) (ov : Bool), DiskOK wr w0.heap.size y ∧ y.D = D ∧ RefOK wr (fun j => y.foot j ∨ j = g) m y.abs ∧ Hid (m.val y.abs.size y.abs.off = .agg #[.int .i64 (sz : Int), .slice AL nL kL, .slice AW nW kW, .bool ov]) ∧
    Blk wr g 51 #[.int .i64 (sz : Int), .slice AL nL kL, .slice AW nW kW, .bool ov] ∧ ¬ y.foot g ∧ y.wp.length ≤ k ∧ w0.heap.size ≤ g ∧ Below w0.heap.size w0 wr
theorem one_ok {w3 : World} {A : Nat} {T : TypeId} {c0 c1 c2 c3 u0 u1 u2 u3 : Value} (hx : Blk w3 A T #[u0, u1, u2, u3]) (w4 : World) (hw : w4 = (((w3.setCell ⟨A, 0, none⟩ c0).setCell ⟨A, 1, none⟩ c1).setCell ⟨A, 2, none⟩ c2).setCell ⟨A, 3, none⟩ c3) :
    Blk w4 A T #[c0, c1, c2, c3] ∧ Kept (fun k => k = A) w3 w4 := by
  subst hw
  refine ⟨(((hx.set_ 0 c0).set_ 1 c1).set_ 2 c2).set_ 3 c3, ?_⟩
  exact (((Kept.refl (fun k => k = A) w3).setCell (p := ⟨A, 0, none⟩) (.inl rfl) c0).setCell (p := ⟨A, 1, none⟩) (.inl rfl) c1).setCell (p := ⟨A, 2, none⟩) (.inl rfl) c2 |>.setCell (p := ⟨A, 3, none⟩) (.inl rfl) c3
set_option maxHeartbeats 1600000 in
theorem diskPlays_yes (s k : UInt8) (l : List ActR) (A : Option Addr) (cap : Nat) (w : World) (hR : RV w A (l.flatMap ActR.cells)) (hl : l.length ≤ 40) (hA : ∀ a ∈ l, ActOK w a) :
    Calls Try.prog 7 #[.int .u8 (s.toNat : Int), .int .u8 (k.toNat : Int), .slice A l.length cap] w fun e w' => e = .returned (.bool true) ∧ Below w.heap.size w w' := by
  have d1 : decide (40 < (l.length : Int)) = false := by simp; omega
  have hs := s.toNat_lt
  have hk := k.toNat_lt
  have n1 : 1 ≤ 1 + s.toNat % 8 := by omega
  have n2 : 1 + s.toNat % 8 ≤ 8 := by omega
  have n3 : 16 ≤ 16 + k.toNat % 20 := by omega
  have n4 : 16 + k.toNat % 20 ≤ 35 := by omega
  have e1 : (1 : Int) + (s.toNat : Int) % 8 = ((1 + s.toNat % 8 : Nat) : Int) := by omega
  have e2 : (16 : Int) + (k.toNat : Int) % 20 = ((16 + k.toNat % 20 : Nat) : Int) := by omega
  have E1 := Lib.hid e1
  have E2 := Lib.hid e2
  clear e1 e2
  go_enter Try.func7, Try.ntmps7
  go_wp2_with fail
  refine (alive_calls w).mono ?_
  rintro e w0 ⟨rfl, b0⟩
  go_wp2_with fail
  rw [E1.out, E2.out]
  generalize 1 + s.toNat % 8 = n at *
  generalize 16 + k.toNat % 20 = sz at *
  clear E1 E2
  refine (new_calls n sz w0 (by omega) (by omega) (by omega) (by omega)).mono ?_
  rintro e w1 ⟨y1, rfl, h1, a1, ln1, sz1, b1⟩
  go_wp2_with fail
  have hF1 : ∀ j, y1.foot j → j < w1.heap.size := fun j hj => (h1.foot_lt hj).2
  refine (rnew_calls n sz y1.foot w1 hF1 (by omega) (by omega) (by omega) (by omega)).mono ?_
  rintro e w2 ⟨m2, rfl, r2, b2⟩
  have hv : (newD n sz).size = sz := rfl
  have ho : (newD n sz).off = false := rfl
  rw [hv, ho]
  obtain ⟨AL, kL, L, AW, kW, W⟩ := m2
  unfold Ref.val
  simp only
  have L0 : Playing w0 y1.D w2.heap.size 0 (w2.alloc (.cells #[.int .i64 (sz : Int), .slice AL L.length kL, .slice AW W.length kW, .bool false] 51)) := by
    have b01 := b1.trans (b2.mono b1.size)
    refine ⟨y1, ⟨AL, kL, L, AW, kW, W⟩, AL, L.length, kL, AW, W.length, kW, sz, false, (h1.below b2).below ((Below.refl _ _).alloc (Nat.le_refl _) _), rfl, ?_, ?_, Blk.new w2 _ _, fun hf => ?_, ?_, b01.size, b01.alloc b01.size _⟩
    · rw [a1]
      refine (r2.mono fun j hj hg => ?_).below ((Below.refl _ _).alloc (Nat.le_refl _) _)
      rcases hg with hg | hg
      · exact hg
      · omega
    · show Ref.val _ _ _ = _
      rw [a1]
      rfl
    · have := ((h1.below b2).foot_lt hf).2
      omega
    · rw [wlen, a1]
      simp [newD]
  have hgw : w0.heap.size ≤ w2.heap.size := Nat.le_trans b1.size b2.size
  clear h1 a1 b1 r2 b2 hF1 hv ho ln1 sz1
  go_wp2
  go_loopw [14, 15, 49] (fun _ _ i wr => ∃ k : Nat, k ≤ l.length ∧ i = .int .i64 k ∧ Playing w0 y1.D w2.heap.size k wr) (fun _ _ i _ => l.length - (intOf i).toNat)
  case atStart => exact ⟨0, by omega, rfl, L0⟩
  case round =>
    clear L0
    obtain ⟨k, hk, rfl, y, m, AL, nL, kL, AW, nW, kW, sz, ov, h, hD, r, HV, bk, nf, hwp, hgl, bel⟩ := hrel
    by_cases hlt : k < l.length
    · obtain ⟨a, ha⟩ : ∃ a, l[k]? = some a := ⟨_, List.getElem?_eq_getElem hlt⟩
      have haok := hA a (List.mem_of_getElem? ha)
      obtain ⟨b, off, rfl, hb, hc⟩ := hR (by intro e; have := acts_get l k 0 (by omega); rw [e, ha] at this; simp [ActR.cells] at this)
      have hbw : Below w.heap.size w wr := b0.trans (bel.mono b0.size)
      have hcc : ∀ i v, i < 5 → a.cells[i]? = some v → wr.cell? ⟨b, off + (k * 5 + i), none⟩ = some v := by
        intro i v hi hv
        rw [hbw.cell (p := ⟨b, off + (k * 5 + i), none⟩) hb]
        exact hc _ _ (by rw [acts_get l k i hi, ha]; exact hv)
      have q0 : wr.cell? ⟨b, off + k * 5, none⟩ = some (.int .i64 a.kind) := hcc 0 _ (by omega) rfl
      have q1 : wr.cell? ⟨b, off + k * 5 + 1, none⟩ = some (.int .i64 a.n) := by rw [Nat.add_assoc]; exact hcc 1 _ (by omega) rfl
      have q2 : wr.cell? ⟨b, off + k * 5 + 2, none⟩ = some (.int .i64 a.torn) := by rw [Nat.add_assoc]; exact hcc 2 _ (by omega) rfl
      have q3 : wr.cell? ⟨b, off + k * 5 + 3, none⟩ = some (.int .u8 (a.b.toNat : Int)) := by rw [Nat.add_assoc]; exact hcc 3 _ (by omega) rfl
      have q4 : wr.cell? ⟨b, off + k * 5 + 4, none⟩ = some (.slice a.ka a.keep.length a.kc) := by rw [Nat.add_assoc]; exact hcc 4 _ (by omega) rfl
      have hdec : decide ((k : Int) < (l.length : Int)) = true := by simp; omega
      clear hcc hc
      have glt := bk.lt
      have g0 : wr.cell? ⟨w2.heap.size, 0, none⟩ = some (.int .i64 (sz : Int)) := bk.at_ rfl
      have g1 : wr.cell? ⟨w2.heap.size, 1, none⟩ = some (.slice AL nL kL) := bk.at_ rfl
      have g2 : wr.cell? ⟨w2.heap.size, 2, none⟩ = some (.slice AW nW kW) := bk.at_ rfl
      have g3 : wr.cell? ⟨w2.heap.size, 3, none⟩ = some (.bool ov) := bk.at_ rfl
      have ba : Below wr.heap.size wr (wr.alloc (.cells #[.int .i64 a.kind, .int .i64 a.n, .int .i64 a.torn, .int .u8 (a.b.toNat : Int), .slice a.ka a.keep.length a.kc] 31)) := (Below.refl _ _).alloc (Nat.le_refl _) _
      have hKF : RVF wr y.foot a.ka (cL a.keep) := by
        intro hne
        obtain ⟨b, off, e, hb, hc⟩ := haok.rv hne
        exact ⟨b, off, e, Nat.lt_of_lt_of_le hb hbw.size, fun hf => by have := (h.foot_lt hf).1; have := b0.size; omega, fun j v hj => by rw [hbw.cell (p := ⟨b, off + j, none⟩) hb]; exact hc j v hj⟩
      have ha1 : ActOK (wr.alloc (.cells #[.int .i64 a.kind, .int .i64 a.n, .int .i64 a.torn, .int .u8 (a.b.toNat : Int), .slice a.ka a.keep.length a.kc] 31)) a := { haok with rv := (haok.rv.below hbw).below ba }
      have PC := play_calls a y m (wr.alloc (.cells #[.int .i64 a.kind, .int .i64 a.n, .int .i64 a.torn, .int .u8 (a.b.toNat : Int), .slice a.ka a.keep.length a.kc] 31)) w0.heap.size (h.below ba) (fun j => j = w2.heap.size) (fun j hj => by subst hj; simp; omega) (r.below ba) (by omega) (by have := bel.size; simp; omega) ha1 (hKF.below ba)
      rw [HV.out, hD] at PC
      have HNF : Hid (¬ y.foot w2.heap.size) := nf
      clear hKF ha1 ba haok ha nf
      go_wp2_with fail
      refine PC.mono ?_
      clear PC
      rintro e w3 ⟨y3, m3, rfl, h3, d3, r3, wl3, k3, nw3⟩
      have bk3 : Blk w3 w2.heap.size 51 #[.int .i64 (sz : Int), .slice AL nL kL, .slice AW nW kW, .bool ov] := (k3.block _ (by simp; omega) HNF.out).trans (bk.alloc _)
      have nf3 : ¬ y3.foot w2.heap.size := fun hf => by
        rcases nw3 _ hf with h4 | h4
        · exact HNF.out h4
        · simp at h4; omega
      have bel3 : Below w0.heap.size w0 w3 := (bel.alloc bel.size _).trans (k3.below (fun j _ hj => (h.foot_lt hj).1) (by have := bel.size; simp; omega))
      have hD3 := d3.trans hD
      obtain ⟨AL3, kL3, L3, AW3, kW3, W3⟩ := m3
      have SC := fun (w4 : World) (h4 : DiskOK w4 w0.heap.size y3) (r4 : RefOK w4 (fun j => y3.foot j ∨ j = w2.heap.size) ⟨AL3, kL3, L3, AW3, kW3, W3⟩ y3.abs) => same_calls y3 ⟨AL3, kL3, L3, AW3, kW3, W3⟩ _ w4 w0.heap.size h4 r4 (by omega)
      rw [hD3] at SC
      have HV3 : Hid (Ref.val ⟨AL3, kL3, L3, AW3, kW3, W3⟩ y3.abs.size y3.abs.off = .agg #[.int .i64 (y3.abs.size : Int), .slice AL3 L3.length kL3, .slice AW3 W3.length kW3, .bool y3.abs.off]) := rfl
      rw [HV3.out] at SC ⊢
      have HSC := Lib.hid SC
      clear SC
      have HD3 := Lib.hid hD3
      generalize hz3 : y3.abs.size = sz3 at HSC ⊢
      generalize ho3 : y3.abs.off = ov3 at HSC ⊢
      rw [show (y3.abs.size : Int) = (sz3 : Int) by rw [hz3]] at HV3
      replace HV3 : Hid (Ref.val ⟨AL3, kL3, L3, AW3, kW3, W3⟩ y3.abs.size y3.abs.off = .agg #[.int .i64 (sz3 : Int), .slice AL3 L3.length kL3, .slice AW3 W3.length kW3, .bool ov3]) := by rw [← ho3]; exact HV3
      clear hz3 ho3
      have s0 : w3.cell? ⟨w2.heap.size, 0, none⟩ = some (.int .i64 (sz : Int)) := bk3.at_ rfl
      have s1 : w3.cell? ⟨w2.heap.size, 1, none⟩ = some (.slice AL nL kL) := bk3.at_ rfl
      have s2 : w3.cell? ⟨w2.heap.size, 2, none⟩ = some (.slice AW nW kW) := bk3.at_ rfl
      have s3 : w3.cell? ⟨w2.heap.size, 3, none⟩ = some (.bool ov) := bk3.at_ rfl
      have z0 := bk3.frozen 0
      have z1 := bk3.frozen 1
      have z2 := bk3.frozen 2
      have z3 := bk3.frozen 3
      have HB3 := Lib.hid bk3
      clear k3 nw3 bk3 bk h hD r HV HNF hD3 d3 g0 g1 g2 g3 q0 q1 q2 q3 q4
      have HN := Lib.hid nf3
      clear nf3
      go_wp2_with fail
      obtain ⟨bk4, k4⟩ := one_ok (c0 := .int .i64 (sz3 : Int)) (c1 := .slice AL3 L3.length kL3) (c2 := .slice AW3 W3.length kW3) (c3 := .bool ov3) HB3.out _ rfl
      have h4 := h3.kept k4 (fun j hj e => HN.out (e ▸ hj))
      have r4 := r3.kept (k4.mono fun j _ hj => .inr hj)
      have bel4 := bel3.trans (k4.below (B := w0.heap.size) (fun j _ hj => by omega) bel3.size)
      have SC := HSC.out _ h4 r4
      clear HSC s0 s1 s2 s3 z0 z1 z2 z3 HB3 k4 h3 r3 bel3
      refine SC.mono ?_
      clear SC
      have nf3 := HN.out
      rintro e w5 ⟨rfl, b5⟩
      have P5 : Playing w0 y1.D w2.heap.size (k + 1) w5 := ⟨y3, ⟨AL3, kL3, L3, AW3, kW3, W3⟩, AL3, L3.length, kL3, AW3, W3.length, kW3, sz3, ov3, h4.below b5, HD3.out, r4.below b5, HV3, bk4.below b5 bk4.lt, nf3, by omega, hgl, bel4.trans (b5.mono bel4.size)⟩
      clear bk4 h4 r4 bel4 HV3 HD3 nf3
      go_wp2
      go_roundw
      case rel => exact ⟨k + 1, by omega, by go_num, P5⟩
      case measure => simp [intOf]; omega
    · obtain rfl : k = l.length := by omega
      have hdec : decide ((l.length : Int) < (l.length : Int)) = false := by simp
      clear hR hA
      go_wp2
      go_ret
      exact ⟨rfl, b0.trans (bel.mono b0.size)⟩
theorem diskPlays_no (s k : UInt8) (A : Option Addr) (n cap : Nat) (w : World) (_hn : n ≤ 9223372036854775807) (h : 40 < n) :
    Calls Try.prog 7 #[.int .u8 (s.toNat : Int), .int .u8 (k.toNat : Int), .slice A n cap] w fun e w' => e = .returned (.bool true) ∧ Below w.heap.size w w' := by
  have d1 : decide (40 < (n : Int)) = true := by simp; omega
  go_enter Try.func7, Try.ntmps7
  go_wp2_with fail
  refine (alive_calls w).mono ?_
  rintro e w0 ⟨rfl, b0⟩
  go_wp2
  go_ret
  exact ⟨rfl, b0⟩
theorem diskPlays_walk (s k : UInt8) (l : List ActR) (A : Option Addr) (cap : Nat) (w : World) (hR : RV w A (l.flatMap ActR.cells)) (hl : l.length ≤ 9223372036854775807) (hA : ∀ a ∈ l, ActOK w a) :
    Calls Try.prog 7 #[.int .u8 (s.toNat : Int), .int .u8 (k.toNat : Int), .slice A l.length cap] w fun e w' => e = .returned (.bool true) ∧ Below w.heap.size w w' := by
  by_cases h : 40 < l.length
  · exact diskPlays_no s k A l.length cap w hl h
  · exact diskPlays_yes s k l A cap w hR (by omega) hA
end Go.Proofs.Ytmemkoiooanhkaa
