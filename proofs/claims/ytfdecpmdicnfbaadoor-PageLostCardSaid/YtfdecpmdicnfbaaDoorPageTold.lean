/-
  The walk of the statements' told: what a disk tells of each sector.
-/
import Derived.Test.YtfdecpmdicnfbaaDoorPageRefA
namespace Go.Proofs.YtfdecpmdicnfbaaDoor
open Go.RowKit DiskP SumP PageP

theorem info_told : (Tryd.prog.info? 48).map (fun i => (i.zero, i.size, i.bytes)) = some (some (.agg #[.string ⟨#[]⟩, .int .i64 0]), 2, 24) := by kernel_rfl
theorem el_told : El Tryd.prog 41 48 (.agg #[.string ⟨#[]⟩, .int .i64 0]) 2 24 := ⟨info_parts info_told, Tryd.underlying41, rfl, by decide⟩
/-- What is told of the first n sectors, as it lies in memory. -/
def toldC (d : Dsk) (n : Nat) : List Value := (List.range n).flatMap fun (i : Nat) => [.string (bstr (d.readL (i : Int))), .int .i64 (d.readE (i : Int))]
theorem toldC_succ (d : Dsk) (n : Nat) : toldC d (n + 1) = toldC d n ++ [.string (bstr (d.readL (n : Int))), .int .i64 (d.readE (n : Int))] := by simp [toldC, List.range_succ]
theorem toldC_len (d : Dsk) (n : Nat) : (toldC d n).length = 2 * n := by
  induction n with
  | zero => rfl
  | succ n ih => rw [toldC_succ, List.length_append, ih]; simp; omega
theorem toldC_get (d : Dsk) (n k : Nat) (hk : k < n) : (toldC d n)[2 * k]? = some (.string (bstr (d.readL (k : Int)))) ∧ (toldC d n)[2 * k + 1]? = some (.int .i64 (d.readE (k : Int))) := by
  induction n with
  | zero => omega
  | succ n ih =>
    rw [toldC_succ]
    have hl := toldC_len d n
    by_cases h : k < n
    · rw [List.getElem?_append_left (by omega), List.getElem?_append_left (by omega)]
      exact ih h
    · obtain rfl : k = n := by omega
      rw [List.getElem?_append_right (by omega), List.getElem?_append_right (by omega), hl]
      rw [show 2 * k - 2 * k = 0 by omega, show 2 * k + 1 - 2 * k = 1 by omega]
      exact ⟨rfl, rfl⟩
def RetTold (w : World) (d : Dsk) (n : Nat) (e : Ending) (w' : World) : Prop :=
  ∃ v, e = .returned v ∧ w'.ownsRow w.heap.size 48 2 v n (toldC d n) ∧ Below w.heap.size w w'
set_option maxHeartbeats 1600000 in
theorem told_calls (y : Lay) (w : World) (base : Nat) (h : DiskOK w base y) : Calls Tryd.prog 19 #[.pointer (some ⟨y.D, 0, none⟩)] w (RetTold w y.abs y.lp.length) := by
  have hl2 := h.l2
  have hll : y.abs.last.length = y.lp.length := by simp [Lay.abs]
  go_enter Tryd.func19, Tryd.ntmps19
  go_wp2_with fail
  refine (size_calls y w base h).mono ?_
  rintro e w1 ⟨rfl, q, rfl⟩
  have b1 : Below w.heap.size w (w.drewN q) := ⟨rfl, rfl, rfl, Nat.le_refl _, fun _ _ => rfl⟩
  have T0 : ∃ k : Nat, k ≤ y.lp.length ∧ Value.int .i64 0 = .int .i64 (k : Int) ∧ (w.drewN q).ownsRow w.heap.size 48 2 (.slice none 0 0) k (toldC y.abs k) ∧ Below w.heap.size w (w.drewN q) := ⟨0, by omega, rfl, World.ownsRow_nil _ _ _ _, b1⟩
  generalize w.drewN q = w1 at *
  go_wp2
  go_loopw [5, 15] (fun v i wr => ∃ k : Nat, k ≤ y.lp.length ∧ i = .int .i64 (k : Int) ∧ wr.ownsRow w.heap.size 48 2 v k (toldC y.abs k) ∧ Below w.heap.size w wr) (fun _ i _ => y.lp.length - (intOf i).toNat)
  case atStart => exact T0
  case round =>
    obtain ⟨k, hk, rfl, own, bel⟩ := hrel
    obtain ⟨AV, cV, rfl, _, _⟩ := own_form own
    clear T0
    by_cases hlt : k < y.lp.length
    · have dk : decide ((k : Int) < (y.lp.length : Int)) = true := decide_eq_true (by omega)
      have hr := h.below bel
      have RC : Calls Tryd.prog 31 #[.pointer (some ⟨y.D, 0, none⟩), .int .i64 (k : Int)] wr fun e w' => ∃ A c, e = .returned (.tuple #[.slice A (y.abs.readL (k : Int)).length c, .int .i64 (y.abs.readE (k : Int))]) ∧ RB w' A (y.abs.readL (k : Int)) ∧ Below wr.heap.size wr w' := by
        refine (read_calls y (k : Int) wr base hr).mono ?_
        rintro e w' ⟨v, rfl, o, bb⟩
        obtain ⟨A2, c2, hv2, _, _⟩ := own_form o
        have r2 : RB w' A2 (y.abs.readL (k : Int)) := by rw [hv2] at o; exact RV.of_own o
        exact ⟨A2, c2, by rw [hv2], r2, bb⟩
      have HS := Lib.hid (toldC_succ y.abs k)
      generalize y.abs.readL (k : Int) = L at *
      generalize y.abs.readE (k : Int) = E at *
      go_wp2_with fail
      refine RC.mono ?_
      clear RC
      rintro e w2 ⟨A2, c2, rfl, r2, b2⟩
      have cv := run_str w2 _ _ _ Tryd.underlying27 Tryd.underlying5 Tryd.underlying9 A2 L L.length c2 r2 rfl
      have own2 := own_below own b2 (fun j hj => (own.lt j hj).2)
      have bel2 := bel.trans (b2.mono bel.size)
      have rv : RV (w2.alloc (.cells #[.string (bstr L), .int .i64 E] 48)) (some ⟨w2.heap.size, 0, none⟩) [.string (bstr L), .int .i64 E] := RV.new w2 [.string (bstr L), .int .i64 E] 48 (0, 0)
      clear r2 own hr
      go_wp2_with ((with_reducible show wpList _ _ _ (⟨some 30, _, _, _, _, _⟩ :: _) _ _); refine wpList_append_rv el_told rfl (.tmp 24) (.tmp 29) rfl w.heap.size (.slice AV k cV) k (toldC y.abs k) rfl (own2.alloc _) (some ⟨w2.heap.size, 0, none⟩) 1 1 [.string (bstr L), .int .i64 E] rfl rfl rv ?f1 ?f2 ?f3 ?f4 ?_)
      case f1 => intro u hu; simp at hu; rcases hu with rfl | rfl <;> rfl
      case f2 => unfold maxLen; omega
      case f3 => omega
      case f4 => exact Nat.le_trans bel2.size (by simp)
      intro v3 w3 own3 gr3 _
      have bel3 : Below w.heap.size w w3 := (bel2.alloc bel2.size _).grown gr3 (Nat.le_trans bel2.size (by simp)) (fun j hj => (own2.lt j hj).1)
      have HO : Hid (w3.ownsRow w.heap.size 48 2 v3 (k + 1) (toldC y.abs (k + 1))) := by show World.ownsRow _ _ _ _ _ _ _; rw [HS.out]; exact own3
      clear own3 gr3 own2 rv cv
      go_wp2
      go_roundw
      case rel => exact ⟨k + 1, by omega, by go_num, HO.out, bel3⟩
      case measure => simp [intOf]; omega
    · obtain rfl : k = y.lp.length := by omega
      have HO := Lib.hid own
      clear own
      go_wp2
      go_ret
      exact ⟨_, rfl, HO.out, bel⟩
end Go.Proofs.YtfdecpmdicnfbaaDoor
