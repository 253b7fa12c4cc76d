/-
  The walk of package page's read.
-/
import Derived.Test.YtendnkklbeiegaaGreatDoorMAD
import Derived.Test.YtendnkklbeiegaaGreatDoorMAF
import Derived.Deep.RegionHeld
import Derived.IntWalk
namespace Go.Proofs.YtendnkklbeiegaaGreatDoor
open Go.RowKit DiskP SumP PageP

theorem RB.sub {w : World} {g o : Nat} {l : List UInt8} (h : RB w (some ⟨g, o, none⟩) l) (a b : Nat) : RB w (some ⟨g, o + a, none⟩) (sub l a b) := by
  intro hne
  have hl : l ≠ [] := by
    rintro rfl
    exact hne (by simp [PageP.sub, cB])
  obtain ⟨b', off, e, hb, hc⟩ := h (by simpa [cB] using hl)
  injection e with e
  injection e with e1 e2
  subst e1 e2
  refine ⟨_, _, rfl, hb, fun j v hj => ?_⟩
  rw [Nat.add_assoc]
  refine hc _ _ ?_
  have e : cB (PageP.sub l a b) = ((cB l).take b).drop a := by simp [PageP.sub, cB]
  rw [e, List.getElem?_drop, List.getElem?_take] at hj
  split at hj
  · exact hj
  · cases hj
def zeroSec : Value := .agg #[.int .u8 0, .int .i64 0, .int .u64 0, .bool false, .slice none 0 0]
def secV (x : Sec) (v : Value) : Value := .agg #[.int .u8 (x.kind.toNat : Int), .int .i64 x.mark, .int .u64 (x.left : Int), .bool x.first, v]
def RetRd (w : World) (l : List UInt8) (g : Nat) (e : Ending) (w' : World) : Prop :=
  Below w.heap.size w w' ∧ match rd l with
    | none => e = .returned (.tuple #[zeroSec, .bool false])
    | some x => ∃ cap, e = .returned (.tuple #[secV x (.slice (some ⟨g, 14, none⟩) x.bytes.length cap), .bool true])
theorem rd_short (l : List UInt8) (g cap : Nat) (w : World) (h : l.length < 19) : Calls Tryz.prog 128 #[.slice (some ⟨g, 0, none⟩) l.length cap] w (RetRd w l g) := by
  have hr : rd l = none := by unfold rd rdOK; rw [show decide (19 ≤ l.length) = false by simp; omega]; rfl
  have hend : ∀ (o : Obj), RetRd w l g (.returned (.tuple #[zeroSec, .bool false])) (w.alloc o) := fun o => ⟨(Below.refl _ _).alloc (Nat.le_refl _) _, by rw [hr]⟩
  have HEND := Lib.hid hend
  have d1 : decide ((l.length : Int) < 19) = true := by simp; omega
  clear hr hend
  go_enter Tryz.func128, Tryz.ntmps128
  go_wp2
  refine bodyPost_ret (v := .tuple #[zeroSec, .bool false]) (by simp [results, Tryz.results128, go_sem, zeroSec]) rfl (HEND.out _)
set_option maxHeartbeats 1600000 in
theorem rd_sum (l : List UInt8) (g cap : Nat) (w : World) (hT : Tab w) (hR : RB w (some ⟨g, 0, none⟩) l) (hl : l.length ≤ 4096) (hcap : l.length ≤ cap) (h : 19 ≤ l.length) (hs : beN (l.drop (l.length - 4)) ≠ crc (l.take (l.length - 4))) :
    Calls Tryz.prog 128 #[.slice (some ⟨g, 0, none⟩) l.length cap] w (RetRd w l g) := by
  have hr : rd l = none := by unfold rd rdOK; rw [show decide (beN (l.drop (l.length - 4)) = crc (l.take (l.length - 4))) = false by simpa using hs]; simp
  have hend : ∀ (w' : World), Below w.heap.size w w' → RetRd w l g (.returned (.tuple #[zeroSec, .bool false])) w' := fun w' hb => ⟨hb, by rw [hr]⟩
  have HEND := Lib.hid hend
  clear hr hend
  have d1 : decide ((l.length : Int) < 19) = false := by simp; omega
  have E4 : Hid ((l.length : Int) - 4 = ((l.length - 4 : Nat) : Int)) := by show _ = _; omega
  have n4 : l.length - 4 ≤ l.length := by omega
  have n5 : (cap = l.length - 4) = False := by simp; omega
  have n6 : l.length - (l.length - 4) = 4 := by omega
  have r1 : RB w (some ⟨g, l.length - 4, none⟩) (l.drop (l.length - 4)) := by
    have := RB.sub hR (l.length - 4) l.length
    rw [Nat.zero_add] at this
    unfold PageP.sub at this
    rw [List.take_length] at this
    exact this
  have r2 : RB w (some ⟨g, 0, none⟩) (l.take (l.length - 4)) := by
    have := RB.sub hR 0 (l.length - 4)
    unfold PageP.sub at this
    exact this
  have B1 : Below w.heap.size w (w.alloc (.cells #[.int .u8 0, .int .i64 0, .int .u64 0, .bool false, .slice none 0 0] 221)) := (Below.refl _ _).alloc (Nat.le_refl _) _
  have C1 := fun (w1 : World) (b1 : Below w.heap.size w w1) => number_len (l.drop (l.length - 4)) 4 (some ⟨g, l.length - 4, none⟩) (cap - (l.length - 4)) w1 (r1.below b1) (by rw [List.length_drop]; omega) (by omega)
  have C2 := fun (w1 : World) (b1 : Below w.heap.size w w1) => of_len (l.take (l.length - 4)) (l.length - 4) (some ⟨g, 0, none⟩) cap w1 (hT.far (Kept.of_below b1 (fun _ => False)) (fun h => h)) (by rw [List.length_take]; omega) (by omega) (r2.below b1)
  have hlt := crc_lt (l.take (l.length - 4))
  have e1 : (((beN (l.drop (l.length - 4)) : Nat) : Int) != ((crc (l.take (l.length - 4)) : Nat) : Int)) = true := by simp; omega
  have e2 : (beN (l.drop (l.length - 4)) != crc (l.take (l.length - 4))) = true := by simpa using hs
  generalize beN (l.drop (l.length - 4)) = s1 at *
  generalize crc (l.take (l.length - 4)) = s2 at *
  have wz : IntKind.u64.wrap (s2 : Int) = (s2 : Int) := by rw [u64_wrap]; omega
  clear hs
  go_enter Tryz.func128, Tryz.ntmps128
  go_wp2
  rw [E4.out]
  refine wp_region_grow (by kernel_rfl) (by kernel_rfl) ?_
  repeat (go_big_quiet_step (fail))
  go_big_quiet_step (exact calls_grow_same (C1 _ (B1.trans ((grow_below _ _).mono (by simp)))))
  repeat (go_big_quiet_step (fail))
  go_big_quiet_step (exact calls_grow_same (C2 _ (B1.trans ((grow_below _ _).mono (by simp)))))
  repeat (go_big_quiet_step (fail))
  refine wpQuiet_nil ?_
  intro _ hw'
  obtain ⟨r9, rfl⟩ := hw'
  have b2 := grow_below (w.alloc (.cells #[.int .u8 0, .int .i64 0, .int .u64 0, .bool false, .slice none 0 0] 221)) r9
  have z2 := (Blk.new w 221 #[.int .u8 0, .int .i64 0, .int .u64 0, .bool false, .slice none 0 0]).below b2 (by simp)
  have b2' : Below w.heap.size w _ := B1.trans (b2.mono (by simp))
  generalize grow (w.alloc (.cells #[.int .u8 0, .int .i64 0, .int .u64 0, .bool false, .slice none 0 0] 221)) r9 = w2 at b2' z2 ⊢
  clear b2 C1 C2 B1 wz
  have p0 : w2.cell? ⟨w.heap.size, 0, none⟩ = some (.int .u8 0) := z2.at_ rfl
  have p1 : w2.cell? ⟨w.heap.size, 1, none⟩ = some (.int .i64 0) := z2.at_ rfl
  have p2 : w2.cell? ⟨w.heap.size, 2, none⟩ = some (.int .u64 0) := z2.at_ rfl
  have p3 : w2.cell? ⟨w.heap.size, 3, none⟩ = some (.bool false) := z2.at_ rfl
  have p4 : w2.cell? ⟨w.heap.size, 4, none⟩ = some (.slice none 0 0) := z2.at_ rfl
  have y0 := z2.frozen 0
  have y1 := z2.frozen 1
  have y2 := z2.frozen 2
  have y3 := z2.frozen 3
  have y4 := z2.frozen 4
  go_wp2
  refine bodyPost_ret (v := .tuple #[zeroSec, .bool false]) (by simp [results, Tryz.results128, go_sem, zeroSec, p0, p1, p2, p3, p4]) rfl (HEND.out _ ?_)
  exact ((((b2'.setCell (Nat.le_refl _) _).setCell (Nat.le_refl _) _).setCell (Nat.le_refl _) _).setCell (Nat.le_refl _) _).setCell (Nat.le_refl _) _
end Go.Proofs.YtendnkklbeiegaaGreatDoor
