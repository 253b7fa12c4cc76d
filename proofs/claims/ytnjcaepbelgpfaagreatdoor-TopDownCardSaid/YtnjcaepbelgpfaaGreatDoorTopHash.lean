/-
  Walk: a text's number.
-/
import Derived.Test.YtnjcaepbelgpfaaGreatDoorProg
import Derived.Test.YtnjcaepbelgpfaaGreatDoorStr
import Derived.Lib.Hide
import Derived.ProofKit
namespace Go.Proofs.YtnjcaepbelgpfaaGreatDoor
open Go.RowKit

/-- Byte k of a text, as a number; 0 behind its end. -/
def bAt (l : List UInt8) (k : Nat) : Int := if h : k < l.length then (l[k].toNat : Int) else 0
theorem get_bAt (l : List UInt8) : ∀ (n : Nat) (h : n < (bstr l).size), (((bstr l)[n]'h).toNat : Int) = bAt l n := fun n h => by
  have h' : n < l.length := h
  unfold bAt
  rw [dif_pos h']
  rfl
theorem bAt_get {l : List UInt8} {k : Nat} (h : k < l.length) : bAt l k = (l[k].toNat : Int) := dif_pos h
theorem bAt_le (l : List UInt8) (k : Nat) : 0 ≤ bAt l k ∧ bAt l k ≤ 255 := by
  unfold bAt
  split
  · have := (l[k]).toNat_lt
    omega
  · omega
def hashStep (h : Int) (c : UInt8) : Int := IntKind.u64.wrap (bits BinOp.xor IntKind.u64 h (IntKind.u64.wrap (c.toNat : Int)) * 1099511628211)
def hashF (l : List UInt8) (h : Int) : Int := l.foldl hashStep h
set_option maxRecDepth 100000 in
set_option maxHeartbeats 1600000 in
theorem hash_calls (s : List UInt8) (hs : s.length ≤ 1000) (w : World) :
    Calls Tryz.prog 18 #[.string (bstr s)] w fun e w' => e = .returned (.int .u64 (hashF s 14695981039346656037)) ∧ w' = w := by
  have sz : (bstr s).size = s.length := rfl
  have hb := get_bAt s
  obtain ⟨res, hres⟩ : ∃ r, r = hashF s 14695981039346656037 := ⟨_, rfl⟩
  rw [← hres]
  replace hres := Lib.hid hres
  go_enter Tryz.func18, Tryz.ntmps18
  go_wp2
  go_loopw [3, 7] (fun h i wr => ∃ (k : Nat) (c : Int), k ≤ s.length ∧ i = .int .i64 k ∧ h = .int .u64 c ∧ Hid (res = hashF (s.drop k) c) ∧ wr = w) (fun _ i _ => s.length - (intOf i).toNat)
  case atStart => exact ⟨0, _, by omega, rfl, rfl, hres, rfl⟩
  case round =>
    clear hres
    obtain ⟨k, c, hk, rfl, rfl, hr, rfl⟩ := hrel
    by_cases hlt : k < s.length
    · have dec : decide ((k : Int) < (s.length : Int)) = true := decide_eq_true (by omega)
      have dec' : decide (k < s.length) = true := decide_eq_true hlt
      have e1 : hashF (s.drop k) c = hashF (s.drop (k + 1)) (hashStep c s[k]) := by rw [List.drop_eq_getElem_cons hlt]; rfl
      have e2 : hashStep c s[k] = IntKind.u64.wrap (bits BinOp.xor IntKind.u64 c (IntKind.u64.wrap (bAt s k)) * 1099511628211) := by rw [bAt_get hlt]; rfl
      have hr2 : Hid (res = hashF (s.drop (k + 1)) (IntKind.u64.wrap (bits BinOp.xor IntKind.u64 c (IntKind.u64.wrap (bAt s k)) * 1099511628211))) := Lib.hid (by rw [hr.out, e1, e2])
      clear e1 e2
      go_wp2
      refine ⟨⟨k + 1, _, by omega, by rw [show ((k : Int) + 1) = ((k + 1 : Nat) : Int) by omega], rfl, hr2, trivial⟩, ?_⟩
      rw [show ((k : Int) + 1) = ((k + 1 : Nat) : Int) by omega]
      simp only [intOf, Int.toNat_natCast]
      omega
    · obtain rfl : k = s.length := by omega
      have dec : decide ((s.length : Int) < (s.length : Int)) = false := decide_eq_false (by omega)
      have e1 : res = c := by rw [hr.out, List.drop_length]; rfl
      clear hr
      replace e1 := Lib.hid e1
      go_wp2
      go_ret
      exact ⟨by rw [e1.out]; rfl, rfl⟩
end Go.Proofs.YtnjcaepbelgpfaaGreatDoor
