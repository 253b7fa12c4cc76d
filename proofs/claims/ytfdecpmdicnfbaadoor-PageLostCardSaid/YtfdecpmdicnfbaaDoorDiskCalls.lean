/-
  What package disk's calls tell, whatever the disk: Write, Flush, Cut, On.
-/
import Derived.Test.YtfdecpmdicnfbaaDoorDiskWalkG
namespace Go.Proofs.YtfdecpmdicnfbaaDoor
open Go.RowKit DiskP

theorem write_at (y : Lay) (n : Int) (l : List UInt8) (len : Nat) (A : Option Addr) (cap : Nat) (w : World) (base : Nat) (h : DiskOK w base y) (hR : RB w A l) (hlen : l.length = len) (hl : len ≤ 9223372036854775807) (hw : y.wp.length ≤ 1000000000) :
    Calls Tryd.prog 30 #[.pointer (some ⟨y.D, 0, none⟩), .int .i64 n, .slice A len cap] w (RetErr w base y (y.abs.writeE n l) (y.abs.writeS n l)) := by
  subst hlen; exact write_calls y n l A cap w base h hR hl hw
def DiskP.Dsk.flushE (d : Dsk) : Int := if d.off then 10 else 0
def DiskP.Dsk.flushS (d : Dsk) : Dsk := if d.off then d else d.flush
theorem flush_calls (y : Lay) (w : World) (base : Nat) (h : DiskOK w base y) (hw : y.wp.length ≤ 1000000000) :
    Calls Tryd.prog 23 #[.pointer (some ⟨y.D, 0, none⟩)] w (RetErr w base y y.abs.flushE y.abs.flushS) := by
  cases ho : y.off
  · have e1 : y.abs.flushE = 0 := by unfold DiskP.Dsk.flushE; rw [show y.abs.off = false from ho]; rfl
    have e2 : y.abs.flushS = y.abs.flush := by unfold DiskP.Dsk.flushS; rw [show y.abs.off = false from ho]; rfl
    rw [e1, e2]
    exact flush_on y w base h ho hw
  · have e1 : y.abs.flushE = 10 := by unfold DiskP.Dsk.flushE; rw [show y.abs.off = true from ho]; rfl
    have e2 : y.abs.flushS = y.abs := by unfold DiskP.Dsk.flushS; rw [show y.abs.off = true from ho]; rfl
    rw [e1, e2]
    exact flush_off y w base h ho
theorem cut_calls (y : Lay) (keep : List Bool) (A : Option Addr) (cap : Nat) (torn : Int) (w : World) (base : Nat) (h : DiskOK w base y) (hw : y.wp.length ≤ 1000000000)
    (hkl : keep.length ≤ 9223372036854775807) (hR : RVF w y.foot A (cL keep)) :
    Calls Tryd.prog 25 #[.pointer (some ⟨y.D, 0, none⟩), .slice A keep.length cap, .int .i64 torn] w fun e w' => e = .returned (.tuple #[]) ∧ Next w base y (y.abs.cut keep torn) w' := by
  cases ho : y.off
  · exact cut_on y keep A cap torn w base h ho hw hkl hR
  · refine (cut_off y A keep.length cap torn w base h ho).mono fun e w' ⟨he, hw'⟩ => ⟨he, ?_⟩
    subst hw'
    have : y.abs.cut keep torn = y.abs := by unfold Dsk.cut; rw [show y.abs.off = true from ho]; rfl
    rw [this]
    exact Next.same h
theorem on_next (y : Lay) (w : World) (base : Nat) (h : DiskOK w base y) :
    Calls Tryd.prog 20 #[.pointer (some ⟨y.D, 0, none⟩)] w fun e w' => e = .returned (.tuple #[]) ∧ Next w base y y.abs.on w' :=
  (on_calls y w base h).mono fun _ _ ⟨he, h', k⟩ => ⟨he, _, h', rfl, rfl, k, fun _ hk => .inl hk⟩
theorem wlen (y : Lay) : y.wp.length = y.abs.wait.length := by simp [Lay.abs]

end Go.Proofs.YtfdecpmdicnfbaaDoor
