/-
  The walk of package disk's Waits.
-/
import Derived.Test.YtpojlchikaffhaaDoorJDisk
namespace Go.Proofs.YtpojlchikaffhaaDoor
open Go.RowKit DiskP

theorem waits_calls (y : Lay) (w : World) (base : Nat) (h : DiskOK w base y) :
    Calls Tryd.prog 30 #[.pointer (some ⟨y.D, 0, none⟩)] w fun e w' => e = .returned (.int .i64 (y.wp.length : Int)) ∧ w = w' := by
  have c3 := h.c3
  obtain ⟨A, c, hv, _, _⟩ := own_form h.wk
  rw [hv] at c3
  go_enter Tryd.func30, Tryd.ntmps30
  go_wp2
  go_ret
  exact ⟨rfl, rfl⟩

end Go.Proofs.YtpojlchikaffhaaDoor
