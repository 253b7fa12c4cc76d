/-
  The walk of package disk's New.
-/
import Derived.Test.YtfdecpmdicnfbaaDoorDiskWalkA
import Derived.Test.YtfdecpmdicnfbaaDoorMem3
namespace Go.Proofs.YtfdecpmdicnfbaaDoor
open Go.RowKit DiskP

theorem info_u8 : (Tryd.prog.info? 5).map (fun i => (i.zero, i.size, i.bytes)) = some (some (.int .u8 0), 1, 1) := by kernel_rfl
theorem el_u8 : El Tryd.prog 27 5 (.int .u8 0) 1 1 := ⟨info_parts info_u8, Tryd.underlying27, rfl, by decide⟩
theorem info_pc : (Tryd.prog.info? 84).map (fun i => (i.zero, i.size, i.bytes)) = some (some (.pointer none), 1, 8) := by kernel_rfl
theorem el_pc : El Tryd.prog 78 84 (.pointer none) 1 8 := ⟨info_parts info_pc, Tryd.underlying78, rfl, by decide⟩

/-- It gives a new disk back; nothing that was there has turned. -/
def RetDisk (w : World) (n size : Nat) (e : Ending) (w' : World) : Prop :=
  ∃ y : Lay, e = .returned (.tuple #[.pointer (some ⟨y.D, 0, none⟩), .int .i64 0]) ∧ DiskOK w' w.heap.size y ∧ y.abs = newD n size ∧ y.lp.length = n ∧ y.size = size ∧ Below w.heap.size w w'

theorem new_no (n size : Int) (w : World) (h : n < 1 ∨ 65536 < n ∨ size < 16 ∨ 4096 < size) :
    Calls Tryd.prog 34 #[.int .i64 n, .int .i64 size] w fun e w' => e = .returned (.tuple #[.pointer none, .int .i64 1]) ∧ w = w' := by
  by_cases h1 : n < 1
  · have d1 : decide (n < 1) = true := by simpa using h1
    go_enter Tryd.func34, Tryd.ntmps34
    go_wp2
    go_ret2
    exact ⟨rfl, rfl⟩
  · have d1 : decide (n < 1) = false := by simpa using h1
    by_cases h2 : 65536 < n
    · have d2 : decide (65536 < n) = true := by simpa using h2
      go_enter Tryd.func34, Tryd.ntmps34
      go_wp2
      go_ret2
      exact ⟨rfl, rfl⟩
    · have d2 : decide (65536 < n) = false := by simpa using h2
      by_cases h3 : size < 16
      · have d3 : decide (size < 16) = true := by simpa using h3
        go_enter Tryd.func34, Tryd.ntmps34
        go_wp2
        go_ret2
        exact ⟨rfl, rfl⟩
      · have d3 : decide (size < 16) = false := by simpa using h3
        have d4 : decide (4096 < size) = true := by simp; omega
        go_enter Tryd.func34, Tryd.ntmps34
        go_wp2
        go_ret2
        exact ⟨rfl, rfl⟩

def newL (n size D L T : Nat) : Lay := ⟨D, L, T, size, List.replicate n none, [], .slice none 0 0, false, fun _ => tornS, fun _ => .slice none 0 0⟩
theorem new_ok (n size : Nat) (w : World) (L T : Nat) (hL : w.heap.size ≤ L) (hT : w.heap.size ≤ T) (hLT : L ≠ T) (h1 : 1 ≤ n) (h2 : n ≤ 65536) (h3 : 16 ≤ size) (h4 : size ≤ 4096) {e : Ending}
    (he : e = .returned (.tuple #[.pointer (some ⟨w.heap.size + 1 + 1, 0, none⟩), .int .i64 0]))
    (hL2 : L < w.heap.size + 2 := by omega) (hT2 : T < w.heap.size + 2 := by omega) :
    RetDisk w n size e (((w.alloc (.cells (rep n (.pointer none)) 84)).alloc (.cells (rep n (.pointer none)) 84)).alloc
      (.cells #[.int .i64 (size : Int), .slice (some ⟨L, 0, none⟩) n n, .slice (some ⟨T, 0, none⟩) n n, .slice none 0 0, .bool false] 81)).drew := by
  have b0 : Blk (((w.alloc (.cells (rep n (.pointer none)) 84)).alloc (.cells (rep n (.pointer none)) 84)).alloc
      (.cells #[.int .i64 (size : Int), .slice (some ⟨L, 0, none⟩) n n, .slice (some ⟨T, 0, none⟩) n n, .slice none 0 0, .bool false] 81)) w.heap.size 84 (rep n (.pointer none)) :=
    ((Blk.new w _ _).alloc _).alloc _
  have b1 : Blk (((w.alloc (.cells (rep n (.pointer none)) 84)).alloc (.cells (rep n (.pointer none)) 84)).alloc
      (.cells #[.int .i64 (size : Int), .slice (some ⟨L, 0, none⟩) n n, .slice (some ⟨T, 0, none⟩) n n, .slice none 0 0, .bool false] 81)) (w.heap.size + 1) 84 (rep n (.pointer none)) := by
    have := (Blk.new (w.alloc (.cells (rep n (.pointer none)) 84)) 84 (rep n (.pointer none))).alloc (.cells #[.int .i64 (size : Int), .slice (some ⟨L, 0, none⟩) n n, .slice (some ⟨T, 0, none⟩) n n, .slice none 0 0, .bool false] 81)
    simpa using this
  have bD := Blk.new ((w.alloc (.cells (rep n (.pointer none)) 84)).alloc (.cells (rep n (.pointer none)) 84)) 81 #[.int .i64 (size : Int), .slice (some ⟨L, 0, none⟩) n n, .slice (some ⟨T, 0, none⟩) n n, .slice none 0 0, .bool false]
  have hrep : (List.replicate n (none : Option Nat)).map ptrV = List.replicate n (.pointer none) := by simp [ptrV]
  have hX : ∀ X, w.heap.size ≤ X → X < w.heap.size + 2 → Blk (((w.alloc (.cells (rep n (.pointer none)) 84)).alloc (.cells (rep n (.pointer none)) 84)).alloc
      (.cells #[.int .i64 (size : Int), .slice (some ⟨L, 0, none⟩) n n, .slice (some ⟨T, 0, none⟩) n n, .slice none 0 0, .bool false] 81)) X 84 (rep n (.pointer none)) := by
    intro X hX1 hX2
    have : X = w.heap.size ∨ X = w.heap.size + 1 := by omega
    rcases this with rfl | rfl
    · exact b0
    · exact b1
  have noids : ∀ c, ¬ (newL n size (w.heap.size + 1 + 1) L T).ids c := by
    intro c hc
    rcases hc with hc | ⟨m, hc⟩
    · simp [newL] at hc
    · simp [newL] at hc
  refine ⟨newL n size (w.heap.size + 1 + 1) L T, he, ?_, ?_, by simp [newL], rfl, ((((Below.refl _ _).alloc (Nat.le_refl _) _).alloc (by simp) _).alloc (by simp; omega) _).drew⟩
  · exact {
      dk := by
        show Blk _ (w.heap.size + 1 + 1) _ _
        have : (newL n size (w.heap.size + 1 + 1) L T).dcells = #[.int .i64 (size : Int), .slice (some ⟨L, 0, none⟩) n n, .slice (some ⟨T, 0, none⟩) n n, .slice none 0 0, .bool false] := by simp [newL, Lay.dcells]
        rw [this]
        refine Blk.drew ?_
        simpa using bD
      lk := by
        show Blk _ L _ (((List.replicate n none).map ptrV).toArray)
        rw [hrep]
        exact hX L hL hL2
      tk := by
        show Blk _ T _ (((List.replicate n none).map ptrV).toArray)
        rw [hrep]
        exact hX T hT hT2
      wk := World.ownsRow_nil _ _ _ _
      ck := fun c hc => absurd hc (noids c)
      bk := fun c hc => absurd hc (noids c)
      bD := by show w.heap.size ≤ w.heap.size + 1 + 1; omega
      bL := hL
      bT := hT
      bc := fun c hc => absurd hc (noids c)
      n1 := fun i j c hi _ => by
        have := List.mem_of_getElem? hi
        simp [newL] at this
      n2 := fun i j n m c hi _ => by simp [newL] at hi
      n3 := fun c n _ h => by simp [newL] at h
      nb := fun c c' k hc => absurd hc (noids c)
      lt := hLT
      wr := fun n c h => by simp [newL] at h
      s1 := h3
      s2 := h4
      l1 := by simp [newL]; exact h1
      l2 := by simp [newL]; exact h2 }
  · simp [newL, Lay.abs, newD, ptrS]
theorem new_calls (n size : Nat) (w : World) (h1 : 1 ≤ n) (h2 : n ≤ 65536) (h3 : 16 ≤ size) (h4 : size ≤ 4096) :
    Calls Tryd.prog 34 #[.int .i64 (n : Int), .int .i64 (size : Int)] w (RetDisk w n size) := by
  have d1 : decide ((n : Int) < 1) = false := by simp; omega
  have d2 : decide (65536 < (n : Int)) = false := by simp; omega
  have d3 : decide ((size : Int) < 16) = false := by simp; omega
  have d4 : decide (4096 < (size : Int)) = false := by simp; omega
  have hmk := run_make_n el_pc rfl n (by omega) (by omega)
  go_enter Tryd.func34, Tryd.ntmps34
  go_wp2
  go_region
  · go_wp2
    go_ret2
    exact new_ok n size w w.heap.size (w.heap.size + 1) (by omega) (by omega) (by omega) (by omega) (by omega) (by omega) (by omega) rfl
  · go_wp2
    go_ret2
    exact new_ok n size w (w.heap.size + 1) w.heap.size (by omega) (by omega) (by omega) (by omega) (by omega) (by omega) (by omega) rfl
end Go.Proofs.YtfdecpmdicnfbaaDoor
