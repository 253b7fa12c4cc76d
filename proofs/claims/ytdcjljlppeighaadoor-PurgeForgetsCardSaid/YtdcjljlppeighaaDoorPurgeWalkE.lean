/-
  The walk of a line's copy.
-/
import Derived.Test.YtdcjljlppeighaaDoorPurgeWalkD
namespace Go.Proofs.YtdcjljlppeighaaDoor
open Go.RowKit PurgeP

theorem info_string : (Tryd.prog.info? 9).map (fun i => (i.zero, i.size, i.bytes)) = some (some (.string ⟨#[]⟩), 1, 16) := by kernel_rfl
theorem el_string : El Tryd.prog 31 9 (.string ⟨#[]⟩) 1 16 := ⟨info_parts info_string, Tryd.underlying31, rfl, by decide⟩
/-- It gives a line back whose keys lie in a row of their own. -/
def RetCopy (w : World) (no : Int) (ks : List Txt) (hd : Bool) (e : Ending) (w' : World) : Prop :=
  ∃ A c, e = .returned (.agg #[.int .i64 no, .slice A ks.length c, .bool hd]) ∧ w'.ownsRow w.heap.size 9 1 (.slice A ks.length c) ks.length (cS ks) ∧ Below w.heap.size w w'
set_option maxHeartbeats 800000 in
theorem copied_calls (no : Int) (ks : List Txt) (hd : Bool) (A : Option Addr) (cap : Nat) (w : World) (hR : RS w A ks) (hn : ks.length ≤ 1000000) :
    Calls Tryd.prog 39 #[.agg #[.int .i64 no, .slice A ks.length cap, .bool hd]] w (RetCopy w no ks hd) := by
  have hs1 : (w.alloc (.cells #[.int .i64 no, .slice A ks.length cap, .bool hd] 54)).heap.size = w.heap.size + 1 := by simp
  have cb := (Blk.new w 54 #[.int .i64 no, .slice A ks.length cap, .bool hd]).alloc (.cells #[.int .i64 0, .slice none 0 0, .bool false] 54)
  have ob := Blk.new (w.alloc (.cells #[.int .i64 no, .slice A ks.length cap, .bool hd] 54)) 54 #[.int .i64 0, .slice none 0 0, .bool false]
  rw [hs1] at ob
  have B1 : Below w.heap.size w ((w.alloc (.cells #[.int .i64 no, .slice A ks.length cap, .bool hd] 54)).alloc (.cells #[.int .i64 0, .slice none 0 0, .bool false] 54)) := ((Below.refl _ _).alloc (Nat.le_refl _) _).alloc (by simp) _
  clear hs1
  go_enter Tryd.func39, Tryd.ntmps39
  go_wp2_with ((with_reducible show wpList _ _ _ (⟨some 5, _, _, _, _, _⟩ :: _) _ _); refine wpList_append_rv el_string rfl (.const (.slice none 0 0)) (.tmp 4) rfl (w.heap.size + 2) _ 0 [] rfl (World.ownsRow_nil _ _ _ _) A ks.length cap (cS ks) rfl ?e1 (hR.below B1) (cS_one _) ?e2 ?e3 ?e4 ?_)
  case e1 => rw [cS_len, Nat.mul_one]
  case e2 => unfold maxLen; omega
  case e3 => omega
  case e4 => simp
  intro v3 w3 own3 gr3 _
  have B3 : Below w.heap.size w w3 := B1.grown gr3 B1.size (fun j hj => by cases hj)
  have K3 : ∀ k, k < w.heap.size + 2 → w3.heap[k]? = _ := fun k hk => gr3.block k (by simp; omega) (fun e => by cases e)
  have c0 : Blk w3 w.heap.size 54 #[.int .i64 no, .slice A ks.length cap, .bool hd] := (K3 w.heap.size (by omega)).trans cb
  have c1 : Blk w3 (w.heap.size + 1) 54 #[.int .i64 0, .slice none 0 0, .bool false] := (K3 (w.heap.size + 1) (by omega)).trans ob
  have hne : w.heap.size ≠ w.heap.size + 1 := by omega
  obtain ⟨A3, cap3, rfl, hn3, _⟩ := own_form own3
  have own3' : w3.ownsRow (w.heap.size + 2) 9 1 (.slice A3 ks.length cap3) ks.length (cS ks) := own3
  have hK : ∀ k, (Value.slice A3 ks.length cap3).ownBlock = some k → w.heap.size + 2 ≤ k := fun k hk => (own3'.lt k hk).1
  have p1 : w3.cell? ⟨w.heap.size, 1, none⟩ = some (.slice A ks.length cap) := c0.at_ rfl
  have f1 := c0.frozen 1
  have c0' := c0.set_ 1 (.slice A3 ks.length cap3)
  have c1' : Blk (w3.setCell ⟨w.heap.size, 1, none⟩ (.slice A3 ks.length cap3)) (w.heap.size + 1) 54 #[.int .i64 0, .slice none 0 0, .bool false] := c1.far (by simp) _
  have B4 : Below w.heap.size w (w3.setCell ⟨w.heap.size, 1, none⟩ (.slice A3 ks.length cap3)) := B3.setCell (Nat.le_refl _) _
  have own4 : (w3.setCell ⟨w.heap.size, 1, none⟩ (.slice A3 ks.length cap3)).ownsRow (w.heap.size + 2) 9 1 (.slice A3 ks.length cap3) ks.length (cS ks) := own_frame own3' (fun k hk => heap_setCell_other _ _ _ _ (by have := hK k hk; simp; omega))
  clear cb ob K3 gr3 B1 hR c0 c1 own3 own3' B3
  go_wp2_with ((with_reducible show wpList _ _ _ (⟨some 7, _, _, _, _, _⟩ :: _) _ _); refine wpList_abs (fun w8 => w8 = w3.setCell ⟨w.heap.size, 1, none⟩ (.slice A3 ks.length cap3)) rfl ?_)
  intro w5 e5
  rw [← e5] at c0' c1' B4 own4
  clear e5 p1 f1
  have q0 : w5.cell? ⟨w.heap.size, 0, none⟩ = some (.int .i64 no) := c0'.at_ rfl
  have q1 : w5.cell? ⟨w.heap.size, 1, none⟩ = some (.slice A3 ks.length cap3) := c0'.at_ rfl
  have q2 : w5.cell? ⟨w.heap.size, 2, none⟩ = some (.bool hd) := c0'.at_ rfl
  have r0 : w5.cell? ⟨w.heap.size + 1, 0, none⟩ = some (.int .i64 0) := c1'.at_ rfl
  have r1 : w5.cell? ⟨w.heap.size + 1, 1, none⟩ = some (.slice none 0 0) := c1'.at_ rfl
  have r2 : w5.cell? ⟨w.heap.size + 1, 2, none⟩ = some (.bool false) := c1'.at_ rfl
  have s0 := c1'.frozen 0
  have s1 := c1'.frozen 1
  have s2 := c1'.frozen 2
  have HE : Hid (RetCopy w no ks hd (.returned (.agg #[.int .i64 no, .slice A3 ks.length cap3, .bool hd])) (((w5.setCell ⟨w.heap.size + 1, 0, none⟩ (.int .i64 no)).setCell ⟨w.heap.size + 1, 1, none⟩ (.slice A3 ks.length cap3)).setCell ⟨w.heap.size + 1, 2, none⟩ (.bool hd))) := by
    refine ⟨_, _, rfl, own_frame (own_mono own4 (by omega)) (fun k hk => ?_), ((B4.setCell (by simp) _).setCell (by simp) _).setCell (by simp) _⟩
    have hk2 := hK k hk
    rw [heap_setCell_other _ _ _ _ (by simp; omega), heap_setCell_other _ _ _ _ (by simp; omega), heap_setCell_other _ _ _ _ (by simp; omega)]
  clear c0' c1' B4 own4 hK
  go_wp2
  refine bodyPost_ret (v := .agg #[.int .i64 no, .slice A3 ks.length cap3, .bool hd]) (by simp [results, Tryd.results39, go_sem, *]) rfl HE.out
end Go.Proofs.YtdcjljlppeighaaDoor
