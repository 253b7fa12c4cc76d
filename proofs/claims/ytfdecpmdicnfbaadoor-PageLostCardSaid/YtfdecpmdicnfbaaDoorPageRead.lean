/-
  What a sector of a record says, in plain words; the record that begins at a sector.
-/
import Derived.Test.YtfdecpmdicnfbaaDoorPagePlain
namespace Go.Proofs.YtfdecpmdicnfbaaDoor.PageP
open DiskP

structure Sec where
  kind : UInt8
  mark : Int
  left : Nat
  first : Bool
  bytes : List UInt8
/-- Bytes from a place up to another one. -/
def sub (l : List UInt8) (a b : Nat) : List UInt8 := (l.take b).drop a
theorem sub_len (l : List UInt8) (a b : Nat) (h : b ≤ l.length) : (sub l a b).length = b - a := by simp [sub]; omega
/-- 64 bits as a number of both signs. -/
def sg64 (n : Nat) : Int := if n < 9223372036854775808 then (n : Int) else (n : Int) - 18446744073709551616
def rdMany (l : List UInt8) : Nat := min (beN (sub l 9 13)) (l.length - 4 - 14)
/-- Is it a sector of a record? -/
def rdOK (l : List UInt8) : Bool :=
  decide (19 ≤ l.length) && decide (beN (l.drop (l.length - 4)) = crc (l.take (l.length - 4))) && decide (l.getD 0 0 ≠ 0) && decide ((l.getD 13 0).toNat ≤ 1) && decide (beN (sub l 9 13) ≤ 1073741824) &&
    (decide (l.getD 13 0 = 1) || decide (beN (sub l 9 13) ≠ 0)) && plainB (sub l (14 + rdMany l) (l.length - 4))
def rdS (l : List UInt8) : Sec := ⟨l.getD 0 0, sg64 (beN (sub l 1 9)), beN (sub l 9 13), decide (l.getD 13 0 = 1), sub l 14 (14 + rdMany l)⟩
def rd (l : List UInt8) : Option Sec := if rdOK l then some (rdS l) else none
/-- The record that begins at a sector: what is told of sectors is a function; n sectors are left; out: what was read. -/
def getP (d : Dsk) (at_ : Int) : Nat → Nat → Sec → List UInt8 → Int × UInt8 × Int × List UInt8 × Int
  | 0, _, _, _ => (8, 0, 0, [], 0)
  | fuel + 1, i, hd, out =>
    if d.readE (at_ + i) ≠ 0 then (d.readE (at_ + i), 0, 0, [], 0)
    else if i = 0 ∧ plainB (d.readL (at_ + i)) = true then (2, 0, 0, [], 0)
    else match rd (d.readL (at_ + i)) with
      | none => (8, 0, 0, [], 0)
      | some x =>
        if i = 0 ∧ x.first = false then (2, 0, 0, [], 0)
        else
          let hd' := if i = 0 then x else hd
          if 0 < i ∧ (x.first = true ∨ x.kind ≠ hd'.kind ∨ x.mark ≠ hd'.mark ∨ x.left + out.length ≠ hd'.left) then (8, 0, 0, [], 0)
          else
            let out' := out ++ x.bytes
            if out'.length = hd'.left then (0, hd'.kind, hd'.mark, out', (i : Int) + 1)
            else getP d at_ fuel (i + 1) hd' out'
end Go.Proofs.YtfdecpmdicnfbaaDoor.PageP
