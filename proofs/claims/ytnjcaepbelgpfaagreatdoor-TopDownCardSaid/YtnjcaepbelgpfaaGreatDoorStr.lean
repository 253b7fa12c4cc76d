/-
  string(b) of bytes that are known.
-/
import Derived.Test.YtnjcaepbelgpfaaGreatDoorMem
import Derived.Laws.BytesArg
namespace Go.Proofs.YtnjcaepbelgpfaaGreatDoor
open Go.RowKit

/-- The string of bytes. -/
def bstr (l : List UInt8) : ByteArray := ⟨l.toArray⟩
theorem bstr_inj {a b : List UInt8} (h : bstr a = bstr b) : a = b := by
  unfold bstr at h
  injection h with h
  exact List.toArray_inj h
theorem run_str {P : Program} (w : World) (src e dst : TypeId) (hs : P.underlying src = some (.slice e)) (he : P.underlying e = some (.int .u8)) (hd : P.underlying dst = some .string)
    (A : Option Addr) (l : List UInt8) (n cap : Nat) (hR : RB w A l) (hn : l.length = n) : (convert src dst (.slice A n cap)).run P w = .ok (.string (bstr l)) w := by
  subst hn
  cases hl : l with
  | nil =>
    cases A with
    | none => exact run_convert_bytes_nil w src e hs he _ _ dst hd
    | some a =>
      rw [run_convert_bytes_string w src dst e _ _ cap hs he hd, run_bytesToString w a _ cap [] (by
        have := run_loadCells_list (P := P) w a [] (fun j v hj => by simp at hj)
        simpa using this)]
      rfl
  | cons c t =>
    rw [← hl]
    obtain ⟨b, off, rfl, _, hc⟩ := hR (by simp [cB, hl])
    have := run_convert_bytes_arg (P := P) w src e hs he b off l.length cap (l.map fun c => (c.toNat : Int)) (by simp) (fun i hi => by
      rw [hc i (.int .u8 (l[i].toNat : Int)) (by simp [cB, byteV, hi])]
      simp [List.getD, hi]) dst hd
    rw [this]
    congr 2
    unfold strOfNums bstr
    congr 2
    rw [List.map_map]
    exact (List.map_congr_left (fun c _ => by simp)).trans (List.map_id l)
end Go.Proofs.YtnjcaepbelgpfaaGreatDoor
