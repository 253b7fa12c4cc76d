/-
  The walk of the statement DiskOwn: it returns true and changes nothing that was there.
-/
import Derived.Test.YtmemkoiooanhkaaDiskLawB
namespace Go.Proofs.Ytmemkoiooanhkaa
open Go.RowKit DiskP

theorem own_S1 (k : Nat) (x : UInt8) (hk : k < 4) : (newD 4 16).writeE (k : Int) (List.replicate 16 x) = 0 ∧ ((newD 4 16).writeS (k : Int) (List.replicate 16 x)).readE k = 0 ∧ ((newD 4 16).writeS (k : Int) (List.replicate 16 x)).readL k = List.replicate 16 x ∧
    ((newD 4 16).writeS (k : Int) (List.replicate 16 x)).wait.length ≤ 10 ∧
    ((newD 4 16).writeS (k : Int) (List.replicate 16 x)).flushS.readE k = 0 ∧ ((newD 4 16).writeS (k : Int) (List.replicate 16 x)).flushS.readL k = List.replicate 16 x := by
  have : k = 0 ∨ k = 1 ∨ k = 2 ∨ k = 3 := by omega
  rcases this with rfl | rfl | rfl | rfl <;> exact ⟨rfl, rfl, rfl, Nat.le_of_ble_eq_true rfl, rfl, rfl⟩
/-- A store into a block that is none of a disk's. -/
theorem DiskOK.away {w : World} {base : Nat} {y : Lay} (h : DiskOK w base y) {p : Addr} (hp : ¬ y.foot p.block) (u : Value) : DiskOK (w.setCell p u) base y :=
  h.frame fun k hk => heap_setCell_other w p k u (fun e => hp (by rw [← e]; exact hk))
theorem rb_cell {w : World} {A : Option Addr} {x : UInt8} {n : Nat} (h : RB w A (List.replicate n x)) (hn : 0 < n) : ∃ b off, A = some ⟨b, off, none⟩ ∧ b < w.heap.size ∧ ∀ j, j < n → w.cell? ⟨b, off + j, none⟩ = some (.int .u8 (x.toNat : Int)) := by
  obtain ⟨b, off, e, hb, hc⟩ := h (by simp [cB]; omega)
  exact ⟨b, off, e, hb, fun j hj => hc j _ (by simp [cB, byteV, hj])⟩

theorem diskOwn_walk (n x y : UInt8) (w : World) :
    Calls Try.prog 4 #[.int .u8 (n.toNat : Int), .int .u8 (x.toNat : Int), .int .u8 (y.toNat : Int)] w fun e w' => e = .returned (.bool true) ∧ Below w.heap.size w w' := by
  have hn : n.toNat < 256 := n.toNat_lt
  have hx : x.toNat < 256 := x.toNat_lt
  obtain ⟨k, hk, hk4⟩ : ∃ k : Nat, (n.toNat : Int) % 4 = (k : Int) ∧ k < 4 := ⟨n.toNat % 4, by omega, by omega⟩
  obtain ⟨p1, p2, p3, p4, p5, p6⟩ := own_S1 k x hk4
  have P1 := Lib.hid p1
  have P2 := Lib.hid p2
  have P3 := Lib.hid p3
  have P4 := Lib.hid p4
  have P5 := Lib.hid p5
  have P6 := Lib.hid p6
  clear p1 p2 p3 p4 p5 p6
  go_enter Try.func4, Try.ntmps4
  go_wp2_with fail
  refine (alive_calls w).mono ?_
  rintro e w0 ⟨rfl, b0⟩
  go_wp2_with fail
  refine (new_calls 4 16 w0 (by omega) (by omega) (by omega) (by omega)).mono ?_
  rintro e w1 ⟨y1, rfl, h1, a1, _, _, b1⟩
  go_wp2_with fail
  refine (filled_calls 16 x w1 (by omega)).mono ?_
  rintro e w2 ⟨g2, rfl, o2, b2⟩
  rw [show (List.replicate 16 x).length = 16 by simp] at o2
  rw [show (List.replicate 16 x).length = 16 by simp]
  have h2 := h1.below b2
  have hg2 := own_lt o2 rfl
  go_wp2_with fail
  try rw [hk]
  refine (write_at y1 (k : Int) (List.replicate 16 x) 16 _ _ w2 w0.heap.size h2 (RV.of_own o2) (by simp) (by omega) (by rw [wlen, a1]; simp [newD])).mono ?_
  rintro e w3 ⟨rfl, y3, h3, a3, d3, k3, f3⟩
  rw [a1] at a3
  rw [← d3]
  have ng3 : ¬ y3.foot g2 := by
    intro hf
    rcases f3 g2 hf with hf | hf
    · have := (h1.foot_lt hf).2; omega
    · omega
  have b3 : Below w0.heap.size w0 w3 := (b1.trans (b2.mono b1.size)).trans (k3.below (fun j _ hj => (h1.foot_lt hj).1) (Nat.le_trans b1.size b2.size))
  have o3 : w3.ownsRow w1.heap.size 5 1 (.slice (some ⟨g2, 0, none⟩) 16 16) 16 (cB (List.replicate 16 x)) := own_frame o2 fun j hj => by
    obtain rfl : g2 = j := by simpa [Value.ownBlock] using hj
    exact k3.block _ hg2.2 (fun hf => by have := (h1.foot_lt hf).2; omega)
  have cc : w3.cell? ⟨g2, 3, none⟩ = some (.int .u8 (x.toNat : Int)) := by rw [o3.cellAt _ (by omega)]; simp [cB, byteV]
  have zz := o3.frozenAt 3
  have hg0 : w0.heap.size ≤ g2 := Nat.le_trans b1.size hg2.1
  clear d3 h1 h2 a1 b1 b2 o2 k3 f3 o3
  go_wp2_with fail
  try rw [hk]
  have h4 : ∀ u, DiskOK (w3.setCell ⟨g2, 3, none⟩ u) w0.heap.size y3 := fun u => h3.away ng3 u
  refine (read_calls y3 (k : Int) _ w0.heap.size (h4 _)).mono ?_
  rintro e w5 ⟨v5, rfl, o5, b5⟩
  have b5' : Below w0.heap.size w0 w5 := (b3.setCell hg0 _).trans (b5.mono (by simpa using b3.size))
  have h5 := (h4 _).below b5
  rw [a3, P3.out] at o5
  rw [show y3.abs.readE (k : Int) = 0 by rw [a3]; exact P2.out]
  obtain ⟨A5, c5, hv, _, _⟩ := own_form o5
  subst hv
  obtain ⟨g5, off, rfl, hg5, hc5⟩ := rb_cell (RV.of_own o5) (by omega)
  have ng5 : ¬ y3.foot g5 := by
    intro hf
    have h1 := ((h4 (.int .u8 0)).foot_lt hf).2
    have h2 := (own_lt o5 rfl).1
    simp at h1 h2
    omega
  rw [show (List.replicate 16 x).length = 16 by simp] at o5
  rw [show (List.replicate 16 x).length = 16 by simp]
  have c53 := hc5 3 (by omega)
  have c55 := hc5 5 (by omega)
  have z55 : w5.frozen? ⟨g5, off + 5, none⟩ = false := by
    obtain rfl : off = 0 := by
      rcases o5.2 with ⟨h, _⟩ | ⟨g', _, _, h, _⟩
      · cases h
      · injection h with h; injection h with h; injection h
    simpa using o5.frozenAt 5
  have hg50 : w0.heap.size ≤ g5 := by
    have h2 := (own_lt o5 rfl).1
    simp at h2
    exact Nat.le_trans b3.size h2
  clear hc5 o5 b5 h4 cc zz ng3
  go_wp2_with fail
  have h6 : ∀ u, DiskOK (w5.setCell ⟨g5, off + 5, none⟩ u) w0.heap.size y3 := fun u => h5.away ng5 u
  refine (flush_calls y3 _ w0.heap.size (h6 _) (by rw [wlen, a3]; have := P4.out; omega)).mono ?_
  rintro e w7 ⟨rfl, y7, h7, a7, d7, k7, _⟩
  rw [a3] at a7
  rw [← d7]
  have b7 : Below w0.heap.size w0 w7 := (b5'.setCell hg50 _).trans (k7.below (fun j _ hj => ((h6 (.int .u8 0)).foot_lt hj).1) (by simpa using b5'.size))
  clear d7 h6 h5 k7 c53 c55 z55 ng5 b5'
  go_wp2_with fail
  try rw [hk]
  refine (read_calls y7 (k : Int) w7 w0.heap.size h7).mono ?_
  rintro e w8 ⟨v8, rfl, o8, b8⟩
  rw [a7, P6.out] at o8
  rw [show y7.abs.readE (k : Int) = 0 by rw [a7]; exact P5.out]
  obtain ⟨A8, c8, hv, _, _⟩ := own_form o8
  subst hv
  obtain ⟨g8, off8, rfl, _, hc8⟩ := rb_cell (RV.of_own o8) (by omega)
  have c83 := hc8 3 (by omega)
  have c85 := hc8 5 (by omega)
  rw [show (List.replicate 16 x).length = 16 by simp]
  have bb : Below w.heap.size w w8 := b0.trans ((b7.trans (b8.mono b7.size)).mono b0.size)
  clear hc8 o8
  go_wp2
  go_ret
  exact ⟨rfl, bb⟩
end Go.Proofs.Ytmemkoiooanhkaa
