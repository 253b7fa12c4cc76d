/-
  The document's small functions on texts: big, Plain, number.
-/
import Derived.Test.YtfdecpmdicnfbaaDoorPageWalkI
namespace Go.Proofs.YtfdecpmdicnfbaaDoor
open Go.RowKit DiskP SumP PageP

theorem bstr_add (a b : List UInt8) : bstr a ++ bstr b = bstr (a ++ b) := by
  unfold bstr
  apply ByteArray.ext
  simp
theorem bstr_size (a : List UInt8) : (bstr a).size = a.length := rfl
theorem bstr_cut (l : List UInt8) (i j : Nat) : (bstr l).extract i j = bstr ((l.drop i).take (j - i)) := by
  unfold bstr
  apply ByteArray.ext
  simp [ByteArray.data_extract]
/-- Byte k of a text, as a number; 0 behind its end. -/
def bAt (l : List UInt8) (k : Nat) : Int := if h : k < l.length then (l[k].toNat : Int) else 0
theorem get_bAt (l : List UInt8) : ∀ (n : Nat) (h : n < (bstr l).size), (((bstr l)[n]'h).toNat : Int) = bAt l n := fun n h => by
  have h' : n < l.length := h
  unfold bAt
  rw [dif_pos h']
  rfl
theorem bAt_get {l : List UInt8} {k : Nat} (h : k < l.length) : bAt l k = (l[k].toNat : Int) := dif_pos h
theorem bAt_le (l : List UInt8) (k : Nat) : 0 ≤ bAt l k ∧ bAt l k ≤ 255 := by
  unfold bAt
  split
  · have := (l[k]).toNat_lt
    omega
  · omega
theorem be_cons (m n : Nat) : be (m + 1) n = UInt8.ofNat (n / 256 ^ m) :: be m n := by
  unfold be
  rw [List.range_succ_eq_map, List.map_cons, List.map_map]
  congr 1
  apply List.map_congr_left
  intro i _
  simp only [Function.comp]
  congr 2
  congr 1
  omega
/-- A byte as a text. -/
theorem conv_one (w : World) (c : UInt8) : (convert 27 9 (.slice (some ⟨w.heap.size, 0, none⟩) 1 1)).run Tryd.prog (w.alloc (.cells #[.int .u8 (c.toNat : Int)] 5)) = .ok (.string (bstr [c])) (w.alloc (.cells #[.int .u8 (c.toNat : Int)] 5)) :=
  run_str _ _ _ _ Tryd.underlying27 Tryd.underlying5 Tryd.underlying9 _ _ 1 1 (RB.of_blk (Blk.new w 5 #[.int .u8 (c.toNat : Int)]) (by simp [cB, byteV])) rfl
theorem conv_byte (w : World) (v : Nat) : (convert 27 9 (.slice (some ⟨w.heap.size, 0, none⟩) 1 1)).run Tryd.prog (w.alloc (.cells #[.int .u8 ((v : Int) % 256)] 5)) = .ok (.string (bstr [UInt8.ofNat v])) (w.alloc (.cells #[.int .u8 ((v : Int) % 256)] 5)) := by
  have e : (v : Int) % 256 = ((UInt8.ofNat v).toNat : Int) := by rw [UInt8.toNat_ofNat']; omega
  rw [e]
  exact conv_one w _
attribute [local go_sem] bstr_add
theorem big_calls (n : Int) (m : Nat) (w : World) (hm : m ≤ 8) :
    Calls Tryd.prog 36 #[.int .i64 n, .int .i64 (m : Int)] w fun e w' => e = .returned (.string (bstr (be m (mk64 n)))) ∧ Below w.heap.size w w' := by
  have hk := mk64_lt n
  have HU : IntKind.u64.wrap n = (mk64 n : Int) := by rw [u64_wrap, mk64_int]
  generalize mk64 n = N at *
  go_enter Tryd.func36, Tryd.ntmps36
  go_wp2
  go_loopw [5, 6, 7] (fun u s i wr => ∃ k : Nat, k ≤ m ∧ i = .int .i64 k ∧ u = .int .u64 ((N / 256 ^ k : Nat) : Int) ∧ s = .string (bstr (be k N)) ∧ Below w.heap.size w wr) (fun _ _ i _ => m - (intOf i).toNat)
  case atStart => exact ⟨0, by omega, rfl, by simp, rfl, Below.refl _ _⟩
  case round =>
    obtain ⟨k, hk8, rfl, rfl, rfl, bel⟩ := hrel
    by_cases hlt : k < m
    · have dk : decide ((k : Int) < (m : Int)) = true := decide_eq_true (by omega)
      have HB := Lib.hid (be_cons k N)
      have HD : Hid (N / 256 ^ (k + 1) = N / 256 ^ k / 256) := by show _ = _; rw [Nat.pow_succ, Nat.div_div_eq_div_mul]
      have hv : N / 256 ^ k < 18446744073709551616 := Nat.lt_of_le_of_lt (Nat.div_le_self _ _) hk
      have zb : ¬ 9223372036854775807 < (bstr [UInt8.ofNat (N / 256 ^ k)]).size + (bstr (be k N)).size := by rw [bstr_size, bstr_size, be_len]; simp; omega
      generalize N / 256 ^ k = v at *
      have cv := conv_byte wr v
      go_wp2
      go_roundw
      case rel => exact ⟨k + 1, by omega, by go_num, by rw [HD.out]; simp, by rw [HB.out], bel.alloc bel.size _⟩
      case measure => simp [intOf]; omega
    · obtain rfl : k = m := by omega
      go_wp2
      go_ret
      exact ⟨rfl, bel⟩
theorem rplain_calls (l : List UInt8) (hl : l.length ≤ 1000000) (w : World) : Calls Tryd.prog 35 #[.string (bstr l)] w fun e w' => e = .returned (.bool (plainB l)) ∧ w = w' := by
  have hb := get_bAt l
  have hs : (bstr l).size = l.length := rfl
  go_enter Tryd.func35, Tryd.ntmps35
  go_wp2
  go_loop [3] (fun i => ∃ k : Nat, k ≤ l.length ∧ i = .int .i64 k ∧ plainB (l.take k) = true) (fun i => l.length - (intOf i).toNat)
  case atStart => exact ⟨0, by omega, rfl, rfl⟩
  case round =>
    obtain ⟨k, hk, rfl, hp⟩ := hrel
    by_cases hlt : k < l.length
    · have HT : Hid (plainB (l.take (k + 1)) = (l[k] == 0)) := by show _ = _; unfold plainB at hp ⊢; rw [List.take_succ_eq_append_getElem hlt, List.all_append, hp]; simp
      have HD : Hid (l = l.take k ++ l[k] :: l.drop (k + 1)) := by show _ = _; rw [List.getElem_cons_drop]; exact (List.take_append_drop k l).symm
      have hdec : decide ((k : Int) < (l.length : Int)) = true := by simp; omega
      have hdec' : decide (k < l.length) = true := decide_eq_true hlt
      have hbk := bAt_get hlt
      generalize l[k] = c at *
      have HP := Lib.hid hp
      clear hp
      by_cases hz : c = 0
      · have hz1 : (bAt l k != 0) = false := by rw [hbk, hz]; rfl
        have HZ := Lib.hid hz
        clear hz hbk
        go_wp2
        go_round
        case rel => exact ⟨k + 1, by omega, by go_num, by rw [HT.out, HZ.out]; rfl⟩
        case measure => simp [intOf]; omega
      · have hz1 : (bAt l k != 0) = true := by
          have : ¬ c.toNat = 0 := fun e => hz (by rw [← UInt8.toNat_inj, e]; rfl)
          rw [hbk]
          simp; omega
        have HF : Hid (plainB l = false) := by
          show _ = _
          rw [HD.out]
          unfold plainB
          simp [hz]
        clear HD HT hbk
        go_wp2
        go_ret
        exact ⟨by rw [HF.out]; rfl, rfl⟩
    · obtain rfl : k = l.length := by omega
      rw [List.take_length] at hp
      have HP := Lib.hid hp
      clear hp
      go_wp2
      go_ret
      exact ⟨by rw [HP.out]; rfl, rfl⟩
theorem rnumber_calls (l : List UInt8) (hl : l.length ≤ 8) (w : World) : Calls Tryd.prog 39 #[.string (bstr l)] w fun e w' => e = .returned (.int .i64 (sg64 (beN l))) ∧ w = w' := by
  have HS : Hid (wrap64 ((beN l : Nat) : Int) = sg64 (beN l)) := by
    show _ = _
    have h1 := beN_lt l
    have h2 := Nat.pow_le_pow_right (show 0 < 256 by decide) hl
    unfold wrap64 sg64
    split <;> omega
  have hb := get_bAt l
  have hs : (bstr l).size = l.length := rfl
  go_enter Tryd.func39, Tryd.ntmps39
  go_wp2
  go_loop [3, 4] (fun u i => ∃ k : Nat, k ≤ l.length ∧ i = .int .i64 k ∧ u = .int .u64 ((beN (l.take k) : Nat) : Int)) (fun _ i => l.length - (intOf i).toNat)
  case atStart => exact ⟨0, by omega, rfl, rfl⟩
  case round =>
    obtain ⟨k, hk, rfl, rfl⟩ := hrel
    by_cases hlt : k < l.length
    · have HT : Hid (beN (l.take (k + 1)) = beN (l.take k) * 256 + (l[k]).toNat) := by show _ = _; rw [List.take_succ_eq_append_getElem hlt, beN_snoc]
      have hdec : decide ((k : Int) < (l.length : Int)) = true := by simp; omega
      have hdec' : decide (k < l.length) = true := decide_eq_true hlt
      have hbk := bAt_get hlt
      have hbl := beN_lt (l.take k)
      have hb2 : beN (l.take k) < 72057594037927936 := by
        have : (l.take k).length ≤ 7 := by simp; omega
        have := Nat.pow_le_pow_right (show 0 < 256 by decide) this
        omega
      have hct := (l[k]).toNat_lt
      generalize (l[k]).toNat = c at *
      generalize beN (l.take k) = v at *
      obtain ⟨x, hx⟩ : ∃ x, bAt l k = x := ⟨_, rfl⟩
      rw [hx] at hbk
      subst hbk
      clear hbl
      go_wp2
      go_round
      case rel => exact ⟨k + 1, by omega, by go_num, by rw [HT.out]; simp⟩
      case measure => simp [intOf]; omega
    · obtain rfl : k = l.length := by omega
      rw [List.take_length]
      go_wp2
      go_ret
      exact ⟨by rw [← HS.out]; rfl, rfl⟩
end Go.Proofs.YtfdecpmdicnfbaaDoor
