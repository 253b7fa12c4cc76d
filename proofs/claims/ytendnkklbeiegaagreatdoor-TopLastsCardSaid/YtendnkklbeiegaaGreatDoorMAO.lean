/-
  Walk: strings.SplitSeq's words of a text of numbers, handed to each round of a loop.
-/
import Derived.Test.YtendnkklbeiegaaGreatDoorMAS
import Derived.RangeFuncNested
import Derived.RangeFuncBound
import Derived.RangeFuncCalls
import Derived.RangeFuncLeaves
import Derived.Shelf.Abstract
import Derived.Shelf.RegionOpen
import Derived.WalkKit
import Derived.OwnWalkIn
import Derived.TacticsInMore
import Derived.LoopNIn
import Derived.LoopIn
import Derived.Maps.AppendAt
import Derived.RangeFuncBox
import Derived.Deep.RegionHeld
import Derived.DeepKeys4
import Derived.RangeFuncSeq
import Derived.RangeFuncKeeps
import Derived.Sort.MapsRangeIn
import Derived.Sort.KeysCollected
import Derived.RegionIn
namespace Go.Proofs.YtendnkklbeiegaaGreatDoor
open Go.RowKit Go.Shelf StoreP
attribute [local go_sem] Oper.semAt_some

theorem index_hit (a r : List UInt8) (h : ∀ c ∈ a, c ≠ 32) : Lib.indexByte (a ++ 32 :: r) 32 = (a.length : Int) := by
  induction a with
  | nil => rfl
  | cons b a ih =>
    have h1 : (b == 32) = false := by have := h b (by simp); simpa using this
    have h2 := ih fun c hc => h c (by simp [hc])
    show (if b == 32 then (0 : Int) else if Lib.indexByte (a ++ 32 :: r) 32 == -1 then -1 else Lib.indexByte (a ++ 32 :: r) 32 + 1) = _
    rw [h1, h2]
    have h3 : (((a.length : Int)) == -1) = false := by simp
    rw [h3]
    simp
theorem index_miss (a : List UInt8) (h : ∀ c ∈ a, c ≠ 32) : Lib.indexByte a 32 = -1 := by
  induction a with
  | nil => rfl
  | cons b a ih =>
    have h1 : (b == 32) = false := by have := h b (by simp); simpa using this
    have h2 := ih fun c hc => h c (by simp [hc])
    show (if b == 32 then (0 : Int) else if Lib.indexByte a 32 == -1 then -1 else Lib.indexByte a 32 + 1) = _
    rw [h1, h2]
    rfl
theorem itoa_32 (x : Int) (h : small40 x) : ∀ c ∈ Lib.itoa x, c ≠ 32 := fun c hc e => by
  have := itoa_digit x h.1 c hc
  subst e
  have : (32 : UInt8).toNat = 32 := rfl
  omega
theorem nums_two (y z : Int) (r : List Int) : numsT (y :: z :: r) = Lib.itoa y ++ 32 :: numsT (z :: r) := by simp [numsT, restT]
theorem bstr_cut (l : List UInt8) (i j : Nat) : (bstr l).extract i j = bstr ((l.drop i).take (j - i)) := by
  unfold bstr
  apply ByteArray.ext
  simp [ByteArray.data_extract]
theorem split_first (y z : Int) (r : List Int) : (bstr (numsT (y :: z :: r))).extract 0 (Lib.itoa y).length = bstr (Lib.itoa y) := by
  rw [bstr_cut, nums_two]; simp
theorem split_rest (y z : Int) (r : List Int) : (bstr (numsT (y :: z :: r))).extract ((Lib.itoa y).length + 1) (numsT (y :: z :: r)).length = bstr (numsT (z :: r)) := by
  rw [bstr_cut, nums_two]
  congr 1
  rw [show Lib.itoa y ++ 32 :: numsT (z :: r) = (Lib.itoa y ++ [32]) ++ numsT (z :: r) by simp, show (Lib.itoa y).length + 1 = (Lib.itoa y ++ [32]).length by simp, List.drop_left]
  rw [List.take_of_length_le (by simp; omega)]
def strLen (w : World) (b : Nat) : Nat := match w.cell? ⟨b, 0, none⟩ with | some (.string s) => s.size | _ => 0
theorem strLen_eq {w : World} {b : Nat} {s : ByteArray} (h : w.cell? ⟨b, 0, none⟩ = some (.string s)) : strLen w b = s.size := by unfold strLen; rw [h]
set_option maxRecDepth 100000 in
set_option maxHeartbeats 1000000 in
theorem split_in (n : Nat) (hn : 1 ≤ n) (l bS bC bK : Nat) (hSC : bC ≠ bS) (hSK : bK ≠ bS) (xs : List Int) (hne : xs ≠ []) (hx : ∀ x ∈ xs, small40 x) (h10 : xs.length ≤ 10) (J : List Int → World → Prop)
    (hJ : ∀ pre W v, J pre W → J pre (W.setCell ⟨bS, 0, none⟩ v))
    (hY : ∀ pre x W, J pre W → small40 x → pre.length < 10 → YieldAt Fence.wide (n - 1) Tryz.prog l #[.string (bstr (Lib.itoa x))] W fun e W' => e = .returned (.bool true) ∧ J (pre ++ [x]) W' ∧ ∀ b, b = bS ∨ b = bC ∨ b = bK → W'.heap[b]? = W.heap[b]?)
    (W : World) (hS : Blk W bS 9 #[.string (bstr (numsT xs))]) (hC : Blk W bC 9 #[.string ⟨#[32]⟩]) (hK : Blk W bK 3 #[.int .i64 0]) (h0 : J [] W) :
    CallsIn Fence.wide n Tryz.prog 188 #[.func (.yield l) #[] #[], .pointer (some ⟨bC, 0, none⟩), .pointer (some ⟨bS, 0, none⟩), .pointer (some ⟨bK, 0, none⟩)] W fun e W' => (∃ v, e = .returned v) ∧ J xs W' := by
  have c1 := hC.at_ (i := 0) rfl
  refine callsIn_of_wp Tryz.func188 rfl trivial ?_ rfl
  simp only [Tryz.ntmps188, List.size_toArray, List.length_cons, List.length_nil, Nat.reduceAdd, Nat.reduceSub, Array.replicate_succ, Array.replicate_zero, List.push_toArray, List.append_toArray, List.nil_append, List.cons_append]
  gi_wp2
  gi_loopw [7] (fun _ wr => ∃ (pre : List Int) (y : Int) (rest : List Int), xs = pre ++ y :: rest ∧ Blk wr bS 9 #[.string (bstr (numsT (y :: rest)))] ∧ Blk wr bC 9 #[.string ⟨#[32]⟩] ∧ Blk wr bK 3 #[.int .i64 0] ∧ J pre wr) (fun _ wr => strLen wr bS)
  case atStart =>
    obtain ⟨y, rest, rfl⟩ : ∃ y rest, xs = y :: rest := by cases xs with | nil => exact absurd rfl hne | cons y r => exact ⟨y, r, rfl⟩
    exact ⟨[], y, rest, rfl, hS, hC, hK, h0⟩
  case round =>
    obtain ⟨pre, y, rest, hxs, kS, kC, kK, hJp⟩ := hrel
    have s0 := kS.at_ (i := 0) rfl
    have c0 := kC.at_ (i := 0) rfl
    have k0 := kK.at_ (i := 0) rfl
    have hy40 := hx y (by rw [hxs]; simp)
    have hpl : pre.length < 10 := by have := congrArg List.length hxs; simp at this; omega
    have h13 := itoa_13 y hy40.1 hy40.2
    cases rest with
    | nil =>
      have hz : numsT [y] = Lib.itoa y := by simp [numsT, restT]
      rw [hz] at s0
      have hi : Lib.indexByte (Lib.itoa y) 32 = -1 := index_miss _ (itoa_32 y hy40)
      have I := index_calls (Lib.itoa y) 32 wr
      rw [hi] at I
      obtain ⟨fn, tmps, assign, body, hy, hR⟩ := hY pre y wr hJp hy40 hpl
      have HX := Lib.hid hxs
      clear hi hz hxs hJp
      gi_wp2_with (refine ⟨trivial, ?_⟩; gi_at_call 190; refine (callsIn_wide.2 I).mono ?_; rintro e w' ⟨rfl, rfl⟩)
      refine hR.mono ?_
      rintro e W3 ⟨rfl, hJ3, _⟩
      gi_wp2
      go_end0
      exact ⟨⟨_, rfl⟩, by rw [HX.out]; exact hJ3⟩
    | cons z r =>
      have hi : Lib.indexByte (numsT (y :: z :: r)) 32 = ((Lib.itoa y).length : Int) := by rw [nums_two]; exact index_hit _ _ (itoa_32 y hy40)
      have I := index_calls (numsT (y :: z :: r)) 32 wr
      rw [hi] at I
      have hz : (bstr (numsT (y :: z :: r))).size = (numsT (y :: z :: r)).length := rfl
      have hL : (numsT (y :: z :: r)).length = (Lib.itoa y).length + 1 + (numsT (z :: r)).length := by rw [nums_two]; simp; omega
      have hF := split_first y z r
      have hR' := split_rest y z r
      have hl1 : (numsT (z :: r)).length ≤ 1000 := by
        have := nums_len (z :: r) fun m hm => hx m (by rw [hxs]; exact List.mem_append_right _ (List.mem_cons_of_mem _ hm))
        have h2 := congrArg List.length hxs
        simp at h2 this
        omega
      have s1 : IntKind.i64.wrap (((Lib.itoa y).length : Int) + 0) = ((Lib.itoa y).length : Int) := by rw [IntKind.wrap_i64]; omega
      have s2 : IntKind.i64.wrap (((Lib.itoa y).length : Int) + 1) = (((Lib.itoa y).length + 1 : Nat) : Int) := by rw [IntKind.wrap_i64]; omega
      have d1 : decide (((Lib.itoa y).length : Int) < 0) = false := decide_eq_false (by omega)
      obtain ⟨fn, tmps, assign, body, hy, hR⟩ := hY pre y wr hJp hy40 hpl
      have HX := Lib.hid hxs
      clear hi hxs hJp
      gi_wp2_with (refine ⟨trivial, ?_⟩; gi_at_call 190; refine (callsIn_wide.2 I).mono ?_; rintro e w' ⟨rfl, rfl⟩)
      refine hR.mono ?_
      rintro e W3 ⟨rfl, hJ3, h3⟩
      have kS3 := (h3 bS (.inl rfl)).trans kS
      have kC3 := (h3 bC (.inr (.inl rfl))).trans kC
      have kK3 := (h3 bK (.inr (.inr rfl))).trans kK
      have s3 := Blk.at_ kS3 (i := 0) rfl
      have c3 := Blk.at_ kC3 (i := 0) rfl
      have z3 := Blk.frozen kS3 0
      gi_wp2
      go_roundw
      case rel =>
        refine ⟨pre ++ [y], z, r, by rw [HX.out]; simp, ?_, (Blk.far kC3 hSC _), (Blk.far kK3 hSK _), hJ _ _ _ hJ3⟩
        rw [← hL, hR']
        exact Blk.set_ kS3 0 _
      case measure =>
        rw [← hL, hR']
        have k4 : Blk (W3.setCell ⟨bS, 0, none⟩ (.string (bstr (numsT (z :: r))))) bS 9 #[.string (bstr (numsT (z :: r)))] := Blk.set_ kS3 0 _
        rw [strLen_eq (k4.at_ (i := 0) rfl), strLen_eq s0, hz, hL]
        show (numsT (z :: r)).length < _
        omega
end Go.Proofs.YtendnkklbeiegaaGreatDoor
namespace Go.Proofs.YtendnkklbeiegaaGreatDoor
open Go.RowKit Go.Shelf StoreP

section
variable {F : Fence} {n : Nat} {P : Program}
/-- An iterator that hands xs to its rounds, where the caller's word bears what is written into the cells C. -/
def GivesC {α : Type} (F : Fence) (n : Nat) (P : Program) (gf : Nat) (lb : Array Value) (encs : α → Array Value) (C : Nat → Prop) (ok : α → Prop) (N : Nat) (xs : List α) (w : World) : Prop :=
  ∀ (l : Nat) (J : List α → World → Prop) (W : World), (∀ pre W b v, C b → J pre W → J pre (W.setCell ⟨b, 0, none⟩ v)) →
    (∀ pre x W, J pre W → ok x → pre.length < N → YieldAt F (n - 1) P l (encs x) W fun e W' => e = .returned (.bool true) ∧ J (pre ++ [x]) W' ∧ ∀ b, C b → W'.heap[b]? = W.heap[b]?) →
    (∀ b, C b → W.heap[b]? = w.heap[b]?) → J [] W → CallsIn F n P gf (#[.func (.yield l) #[] #[]] ++ lb) W fun e W' => (∃ v, e = .returned v) ∧ J xs W'
theorem wpIn_rangeFunc_cells {α : Type} {g : Operand} {ps : Array Tmp} {assign body : Code} {Q : Exit → Act → World → Prop} {a : Act} {w : World}
    (hro : F.round = none) (h1 : 1 ≤ n) {gf : Nat} {lb : Array Value} (hg : a.eval g = .func (.func gf) #[] lb) (hFg : F.fn gf) (eg : ∀ args w, (callFunc gf args).run P w = .ok (.enter gf args) w)
    {encs : α → Array Value} {C : Nat → Prop} {ok : α → Prop} {N : Nat} {xs : List α} (hseq : GivesC F (n - 1) P gf lb encs C ok N xs w) (hC : ∀ b, C b → b < w.heap.size) (hps : ∀ x, (encs x).size = ps.size)
    (I : List α → World → Prop) (hI : OwnFrom w.heap.size I) (hIC : ∀ pre W b v, C b → I pre W → I pre (W.setCell ⟨b, 0, none⟩ v)) (h0 : I [] w) (a₁ : α → Act)
    (hassign : ∀ (l : Nat) (x : α) (W : World) (K : Act → World → Prop), K (a₁ x) W →
      assign.wpIn (F.inRound l) (n - 1 - 1) P (Exit.then K (fun _ _ _ => False)) { tmps := (ps.zip (encs x)).foldl (fun t (p, v) => t.setIfInBounds p v) a.tmps, defers := [] } W)
    (hbody : ∀ (l : Nat) (pre : List α) (x : α) (W : World), I pre W → ok x → pre.length < N → body.wpIn (F.inRound l) (n - 1 - 1) P (fun e _ W' => e = .normal ∧ KeepsFrom w.heap.size W W' ∧ I (pre ++ [x]) W' ∧ ∀ b, C b → W'.heap[b]? = W.heap[b]?) (a₁ x) W)
    (hdone : ∀ (D : Nat) (W : World), w.heap.size ≤ D → I xs W → W.heap[D]? = some (.deferred (some [])) → Q .normal { a with defers := { target := .collected D, args := #[] } :: a.defers } W) :
    (Code.rangeFunc g ps assign body).wpIn F n P Q a w := by
  refine wpIn_rangeFunc ?_
  intro fn hfn
  rw [hro]
  obtain ⟨rec, hrec⟩ : ∃ rec : LoopState → Option Code → Loop, rec = fun st pe => { state := st, pending := pe, fn, tmps := a.tmps, params := ps, assign, body, defers := w.heap.size } := ⟨_, rfl⟩
  obtain ⟨W1, hW1⟩ : ∃ W1, (w.alloc (.deferred (some []))).alloc (.loop (rec .ready none)) = W1 := ⟨_, rfl⟩
  have hL1 : W1.heap[w.heap.size + 1]? = some (.loop (rec .ready none)) := by
    rw [← hW1]; have := World.alloc_heap_new (w.alloc (.deferred (some []))) (.loop (rec .ready none)); rwa [World.size_alloc] at this
  have hK1 : W1.heap[w.heap.size]? = some (.deferred (some [])) := by
    rw [← hW1]; exact (Below.heap_alloc _ _ _ (by simp)).trans (World.alloc_heap_new w _)
  have hI1 : I [] W1 := by rw [← hW1]; exact hI.alloc _ (hI.alloc _ h0)
  have hC1 : ∀ b, C b → W1.heap[b]? = w.heap[b]? := fun b hb => by
    have := hC b hb
    rw [← hW1]; exact (Below.heap_alloc _ _ _ (by simp; omega)).trans (Below.heap_alloc _ _ _ this)
  refine ⟨w.heap.size + 1, [{ target := .collected w.heap.size, args := #[] }], W1, { target := .fn (.func gf) lb, args := #[.func (.yield (w.heap.size + 1)) #[] #[]] }, W1, gf,
    #[.func (.yield (w.heap.size + 1)) #[] #[]] ++ lb, W1, ?_, ?_, ?_, ?_, fun _ => h1, ?_⟩
  · rw [← hW1, hrec]; exact run_enterLoop_outer _ _ _ _ _
  · simp only [resolve, hg]
    simp [go_sem]
  · intro f' hf'; simp [Target.leads] at hf'; subst hf'; exact hFg
  · simp [invoke, go_sem, eg]
  · refine (hseq (w.heap.size + 1)
      (fun pre W => I pre W ∧ W.heap[w.heap.size + 1]? = some (.loop (rec .ready none)) ∧ W.heap[w.heap.size]? = some (.deferred (some [])))
      W1 (fun pre W b v hb hs => ?_) ?_ hC1 ⟨hI1, hL1, hK1⟩).mono ?_
    · have := hC b hb
      refine ⟨hIC pre W b v hb hs.1, ?_, ?_⟩
      · rw [heap_setCell_other W ⟨b, 0, none⟩ _ v (by show w.heap.size + 1 ≠ b; omega)]; exact hs.2.1
      · rw [heap_setCell_other W ⟨b, 0, none⟩ _ v (by show w.heap.size ≠ b; omega)]; exact hs.2.2
    · -- one round
      rintro pre x W ⟨hi, hl, hk⟩ hox hlen
      have hlt : w.heap.size + 1 < W.heap.size := (Array.getElem?_eq_some_iff.1 hl).1
      have hy := run_yield (P := P) (args := encs x) hl (by rw [hrec]; exact hps x)
      rw [hrec] at hy
      refine ⟨fn, _, assign, body, hy, roundIn_of_wpIn hfn (hassign _ x W _ ?_)⟩
      refine ⟨_, run_beginRound hl (by rw [hrec]), ?_⟩
      have hl2 : (W.putObj (w.heap.size + 1) (.loop { rec .ready none with state := .busy })).heap[w.heap.size + 1]? = some (.loop { rec .ready none with state := .busy }) := World.putObj_heap_same hlt
      have hk2 : (W.putObj (w.heap.size + 1) (.loop { rec .ready none with state := .busy })).heap[w.heap.size]? = some (.deferred (some [])) := (World.putObj_heap_other (by omega)).trans hk
      have hc2 : ∀ b, C b → (W.putObj (w.heap.size + 1) (.loop { rec .ready none with state := .busy })).heap[b]? = W.heap[b]? := fun b hb => by have := hC b hb; exact World.putObj_heap_other (by omega)
      refine wpIn_mono (hbody _ pre x _ (hI.putObj _ hi (by omega) hl rfl) hox hlen) ?_
      rintro e a3 W3 ⟨rfl, hk3, hi3, hc3⟩
      have hl3 := hk3.same _ _ (by omega) hl2 rfl
      have hr := run_endRound (P := P) none hl3
      refine ⟨_, _, hr, rfl, ⟨hI.putObj _ hi3 (by omega) hl3 rfl, ?_, ?_⟩, fun b hb => ?_⟩
      · rw [hrec]; exact World.putObj_heap_same (Array.getElem?_eq_some_iff.1 hl3).1
      · exact (World.putObj_heap_other (by omega)).trans (hk3.same _ _ (Nat.le_refl _) hk2 rfl)
      · have := hC b hb
        exact ((World.putObj_heap_other (by omega)).trans (hc3 b hb)).trans (hc2 b hb)
    · -- behind the iterator
      rintro e W2 ⟨⟨v, rfl⟩, hi, hl, hk⟩
      exact ⟨none, _, by have := run_endLoop (P := P) hl (by rw [hrec]; simp); rw [hrec] at this; exact this, hdone _ _ (Nat.le_refl _) (hI.putObj _ hi (by omega) hl rfl) ((World.putObj_heap_other (by omega)).trans hk)⟩
end
/-- SplitSeq's closure is such an iterator. -/
theorem split_gives (n : Nat) (hn : 1 ≤ n) (bS bC bK : Nat) (hSC : bC ≠ bS) (hSK : bK ≠ bS) (xs : List Int) (hne : xs ≠ []) (hx : ∀ x ∈ xs, small40 x) (h10 : xs.length ≤ 10) (w : World)
    (hS : Blk w bS 9 #[.string (bstr (numsT xs))]) (hC : Blk w bC 9 #[.string ⟨#[32]⟩]) (hK : Blk w bK 3 #[.int .i64 0]) :
    GivesC Fence.wide n Tryz.prog 188 #[.pointer (some ⟨bC, 0, none⟩), .pointer (some ⟨bS, 0, none⟩), .pointer (some ⟨bK, 0, none⟩)] (fun x : Int => #[.string (bstr (Lib.itoa x))]) (fun b => b = bS ∨ b = bC ∨ b = bK) small40 10 xs w :=
  fun l J W hJ hY hW h0 => split_in n hn l bS bC bK hSC hSK xs hne hx h10 J (fun pre W v h => hJ pre W bS v (.inl rfl) h) (fun pre x W h1 h2 h3 => hY pre x W h1 h2 h3) W ((hW bS (.inl rfl)).trans hS) ((hW bC (.inr (.inl rfl))).trans hC) ((hW bK (.inr (.inr rfl))).trans hK) h0
end Go.Proofs.YtendnkklbeiegaaGreatDoor
namespace Go.Proofs.YtendnkklbeiegaaGreatDoor
open Go.RowKit Go.Shelf StoreP
attribute [local go_sem] Oper.semAt_some

theorem splitseq_calls (s : ByteArray) (w : World) :
    Calls Tryz.prog 123 #[.string s, .string ⟨#[32]⟩] w fun e w' => e = .returned (.func (.func 188) #[] #[.pointer (some ⟨w.heap.size + 1, 0, none⟩), .pointer (some ⟨w.heap.size, 0, none⟩), .pointer (some ⟨w.heap.size + 2, 0, none⟩)]) ∧
      w' = ((w.alloc (.cells #[.string s] 9)).alloc (.cells #[.string ⟨#[32]⟩] 9)).alloc (.cells #[.int .i64 0] 3) := by
  go_enter Tryz.func123, Tryz.ntmps123
  go_wp2
  go_ret
  exact ⟨rfl, rfl⟩
theorem info_n64 : (Tryz.prog.info? 2).map (fun i => (i.zero, i.size, i.bytes)) = some (some (.int .i64 0), 1, 8) := by kernel_rfl
theorem el_n64 : El Tryz.prog 53 2 (.int .i64 0) 1 8 := ⟨info_parts info_n64, Tryz.underlying53, rfl, by decide⟩
theorem run_make_0 {P : Program} {t e : TypeId} {z : Value} {bytes : Nat} (E : El P t e z 1 bytes) (hz : z.cells = #[z]) (n : Nat) (hb : bytes * n ≤ 281474976710656) (h63 : n ≤ 9223372036854775807) (w : World) :
    (Instr.makeSlice t (.int .i64 0) (.int .i64 (n : Int))).run P w = .ok (.slice (some ⟨w.heap.size, 0, none⟩) 0 n) (w.alloc (.cells (rep n z) e)) := by
  obtain ⟨i, hi, hz0, hs, hby⟩ := E.info
  have hb' : (i.bytes : Int) * (n : Int) ≤ 281474976710656 := by
    rw [hby, ← Int.natCast_mul]
    omega
  have := run_make (P := P) w t e i z E.under hi hz0 .i64 .i64 0 n (by omega) (by omega) hb' (by omega)
  simp only [Int.toNat_natCast] at this
  rw [hs, hz, made_rep] at this
  exact this
theorem own_made0 (w : World) {base : Nat} (e : TypeId) (n : Nat) (z : Value) (hb : base ≤ w.heap.size) (hn : n ≤ maxLen) : (w.alloc (.cells (rep n z) e)).ownsRow base e 1 (.slice (some ⟨w.heap.size, 0, none⟩) 0 n) 0 [] :=
  ⟨by simp, .inr ⟨w.heap.size, n, rep n z, rfl, hb, heap_alloc_new w _, Nat.zero_le _, hn, by simp [rep], by simp⟩⟩
theorem boxed_past {W w1 : World} {n₀ B B' size k : Nat} {t e : TypeId} {u v : Value} {xs : List Value} {tmp : Obj} (hb : Boxed W B t u) (hte : t ≠ e) (hrow : W.ownsRow n₀ e size v k xs) (hgrow : (W.alloc tmp).grownBy w1 v.ownBlock) (hne : B ≠ B') (v' : Value) : Boxed (w1.setCell ⟨B', 0, none⟩ v') B t u :=
  ((hb.alloc tmp).kept hgrow (hb.not_row hte hrow)).other hne v'
theorem past_same {W w1 : World} {n₀ B B' size k : Nat} {t e : TypeId} {u v : Value} {xs : List Value} {tmp : Obj} (hb : Boxed W B t u) (hte : t ≠ e) (hrow : W.ownsRow n₀ e size v k xs) (hgrow : (W.alloc tmp).grownBy w1 v.ownBlock) (hne : B ≠ B') (v' : Value) : (w1.setCell ⟨B', 0, none⟩ v').heap[B]? = W.heap[B]? :=
  (boxed_past hb hte hrow hgrow hne v').trans hb.symm
/-- A cell of some type that is none of int64's rows. -/
def CapC (W : World) (b : Nat) : Prop := ∃ t u, t ≠ 2 ∧ Boxed W b t u
theorem capC_own (b : Nat) : Own (fun (_ : List Int) W => CapC W b) := fun s X Y row h hg hrow => by
  obtain ⟨t, u, ht, h⟩ := h
  exact ⟨t, u, ht, boxed_own b t (fun _ : List Int => u) s X Y row h hg hrow⟩
theorem CapC.set {W : World} {b : Nat} (h : CapC W b) (b' : Nat) (u : Value) : CapC (W.setCell ⟨b', 0, none⟩ u) b := by
  obtain ⟨t, u', ht, h⟩ := h
  by_cases e : b = b'
  · subst e; exact ⟨t, _, ht, h.set u⟩
  · exact ⟨t, u', ht, h.other e u⟩
theorem bel_keeps {B : Nat} {W w1 : World} (h : Below W.heap.size W w1) : KeepsFrom B W w1 := ⟨h.size, fun k _o _ hk _ => (h.block k (Array.getElem?_eq_some_iff.1 hk).1).trans hk⟩
def RetNum (w : World) (xs : List Int) (e : Ending) (w' : World) : Prop := ∃ A c, e = .returned (.tuple #[.slice A xs.length c, .bool true]) ∧ RV w' A (cI xs) ∧ Below w.heap.size w w' ∧ ∀ b off, A = some ⟨b, off, none⟩ → w.heap.size ≤ b
theorem cell_bel {w w' : World} (h : Below w.heap.size w w') {b i : Nat} {v : Value} (hc : w.cell? ⟨b, i, none⟩ = some v) : w'.cell? ⟨b, i, none⟩ = some v :=
  (h.cell (p := ⟨b, i, none⟩) (World.block_lt_of_cell? w ⟨b, i, none⟩ hc)).trans hc
theorem cell_off {x : World} {b b' i : Nat} {u v : Value} (hb : b' ≠ b) (h : x.cell? ⟨b, i, none⟩ = some v) : (x.setCell ⟨b', 0, none⟩ u).cell? ⟨b, i, none⟩ = some v :=
  (World.cell?_of_block (w := x) (heap_setCell_other x ⟨b', 0, none⟩ b u (Ne.symm hb))).trans h
/-- What stands where numbers ends. -/
structure NumEnd (w W : World) (D : Nat) (A : Option Addr) (c : Nat) (xs : List Int) (a' : Act) (w' : World) : Prop where
  t4 : a'.tmps.getD 4 undef = .pointer (some ⟨w.heap.size, 0, none⟩)
  t5 : a'.tmps.getD 5 undef = .pointer (some ⟨w.heap.size + 1, 0, none⟩)
  df : a'.defers = [{ target := Target.collected D, args := #[] }]
  c0 : Boxed w' w.heap.size 53 (.slice A xs.length c)
  c1 : Boxed w' (w.heap.size + 1) 4 (.bool true)
  kd : ∀ k, k < W.heap.size → k ≠ w.heap.size → k ≠ w.heap.size + 1 → w'.heap[k]? = W.heap[k]?
  bl : Below w.heap.size w w'
set_option maxRecDepth 100000 in
set_option maxHeartbeats 2000000 in
theorem numbers_calls (xs : List Int) (hne : xs ≠ []) (hx : ∀ x ∈ xs, small40 x) (h10 : xs.length ≤ 10) (w : World) (base : Nat) (hG : Glob w base) (hb : base ≤ w.heap.size) :
    Calls Tryz.prog 79 #[.string (bstr (numsT xs)), .int .i64 (xs.length : Int)] w (RetNum w xs) := by
  refine (callsIn_wide (n := 6)).1 ?_
  refine callsIn_of_wp_marks Tryz.func79 rfl trivial ?_ rfl
  simp only [Tryz.ntmps79, List.size_toArray, List.length_cons, List.length_nil, Nat.reduceAdd, Nat.reduceSub, Array.replicate_succ, Array.replicate_zero, List.push_toArray, List.append_toArray, List.nil_append, List.cons_append]
  refine wpIn_wide.2 ?_
  have hm := fun w' => run_make_0 el_n64 rfl xs.length (by omega) (by omega) w'
  go_wp2_with (go_at_call 123; refine (splitseq_calls _ _).mono ?_; rintro e w' ⟨rfl, rfl⟩)
  simp only [Nat.add_assoc, Nat.reduceAdd]
  have bR : Boxed (w.alloc (.cells #[.slice none 0 0] 53)) w.heap.size 53 (.slice none 0 0) := Boxed.new _ _ _
  have bO := Boxed.new (w.alloc (.cells #[.slice none 0 0] 53)) 4 (.bool false)
  have r0 := own_made0 (base := w.heap.size + 2) ((w.alloc (.cells #[.slice none 0 0] 53)).alloc (.cells #[.bool false] 4)) 2 xs.length (.int .i64 0) (by simp) (by unfold maxLen; omega)
  have bL := Boxed.new (((w.alloc (.cells #[.slice none 0 0] 53)).alloc (.cells #[.bool false] 4)).alloc (.cells (rep xs.length (.int .i64 0)) 2)) 53 (.slice (some ⟨w.heap.size + 2, 0, none⟩) 0 xs.length)
  have kS := Blk.new ((((w.alloc (.cells #[.slice none 0 0] 53)).alloc (.cells #[.bool false] 4)).alloc (.cells (rep xs.length (.int .i64 0)) 2)).alloc (.cells #[.slice (some ⟨w.heap.size + 2, 0, none⟩) 0 xs.length] 53)) 9 #[.string (bstr (numsT xs))]
  have kC := Blk.new (((((w.alloc (.cells #[.slice none 0 0] 53)).alloc (.cells #[.bool false] 4)).alloc (.cells (rep xs.length (.int .i64 0)) 2)).alloc (.cells #[.slice (some ⟨w.heap.size + 2, 0, none⟩) 0 xs.length] 53)).alloc (.cells #[.string (bstr (numsT xs))] 9)) 9 #[.string ⟨#[32]⟩]
  have kK := Blk.new ((((((w.alloc (.cells #[.slice none 0 0] 53)).alloc (.cells #[.bool false] 4)).alloc (.cells (rep xs.length (.int .i64 0)) 2)).alloc (.cells #[.slice (some ⟨w.heap.size + 2, 0, none⟩) 0 xs.length] 53)).alloc (.cells #[.string (bstr (numsT xs))] 9)).alloc (.cells #[.string ⟨#[32]⟩] 9)) 3 #[.int .i64 0]
  simp only [World.size_alloc, Nat.add_assoc, Nat.reduceAdd] at bO r0 bL kS kC kK
  replace bR := (((((bR.alloc (.cells #[.bool false] 4)).alloc (.cells (rep xs.length (.int .i64 0)) 2)).alloc (.cells #[.slice (some ⟨w.heap.size + 2, 0, none⟩) 0 xs.length] 53)).alloc (.cells #[.string (bstr (numsT xs))] 9)).alloc (.cells #[.string ⟨#[32]⟩] 9)).alloc (.cells #[.int .i64 0] 3)
  replace bO := ((((bO.alloc (.cells (rep xs.length (.int .i64 0)) 2)).alloc (.cells #[.slice (some ⟨w.heap.size + 2, 0, none⟩) 0 xs.length] 53)).alloc (.cells #[.string (bstr (numsT xs))] 9)).alloc (.cells #[.string ⟨#[32]⟩] 9)).alloc (.cells #[.int .i64 0] 3)
  replace r0 := (((r0.alloc (.cells #[.slice (some ⟨w.heap.size + 2, 0, none⟩) 0 xs.length] 53)).alloc (.cells #[.string (bstr (numsT xs))] 9)).alloc (.cells #[.string ⟨#[32]⟩] 9)).alloc (.cells #[.int .i64 0] 3)
  replace bL := ((bL.alloc (.cells #[.string (bstr (numsT xs))] 9)).alloc (.cells #[.string ⟨#[32]⟩] 9)).alloc (.cells #[.int .i64 0] 3)
  replace kS := (kS.alloc (.cells #[.string ⟨#[32]⟩] 9)).alloc (.cells #[.int .i64 0] 3)
  replace kC := kC.alloc (.cells #[.int .i64 0] 3)
  have B0 : Below w.heap.size w (((((((w.alloc (.cells #[.slice none 0 0] 53)).alloc (.cells #[.bool false] 4)).alloc (.cells (rep xs.length (.int .i64 0)) 2)).alloc (.cells #[.slice (some ⟨w.heap.size + 2, 0, none⟩) 0 xs.length] 53)).alloc (.cells #[.string (bstr (numsT xs))] 9)).alloc (.cells #[.string ⟨#[32]⟩] 9)).alloc (.cells #[.int .i64 0] 3)) :=
    (((((((Below.refl _ w).alloc (Nat.le_refl _) _).alloc (by simp) _).alloc (by simp; omega) _).alloc (by simp; omega) _).alloc (by simp; omega) _).alloc (by simp; omega) _).alloc (by simp; omega) _
  have hW0 : (((((((w.alloc (.cells #[.slice none 0 0] 53)).alloc (.cells #[.bool false] 4)).alloc (.cells (rep xs.length (.int .i64 0)) 2)).alloc (.cells #[.slice (some ⟨w.heap.size + 2, 0, none⟩) 0 xs.length] 53)).alloc (.cells #[.string (bstr (numsT xs))] 9)).alloc (.cells #[.string ⟨#[32]⟩] 9)).alloc (.cells #[.int .i64 0] 3)).heap.size = w.heap.size + 7 := by simp
  revert bR bO r0 bL kS kC kK B0 hW0
  generalize (((((((w.alloc (.cells #[.slice none 0 0] 53)).alloc (.cells #[.bool false] 4)).alloc (.cells (rep xs.length (.int .i64 0)) 2)).alloc (.cells #[.slice (some ⟨w.heap.size + 2, 0, none⟩) 0 xs.length] 53)).alloc (.cells #[.string (bstr (numsT xs))] 9)).alloc (.cells #[.string ⟨#[32]⟩] 9)).alloc (.cells #[.int .i64 0] 3)) = W0
  intro kK bR bO r0 bL kS kC B0 hW0
  refine (wpIn_wide (n := 6)).1 ?_
  refine wpIn_rangeFunc_cells rfl (by omega) (gf := 188) (lb := #[.pointer (some ⟨w.heap.size + 5, 0, none⟩), .pointer (some ⟨w.heap.size + 4, 0, none⟩), .pointer (some ⟨w.heap.size + 6, 0, none⟩)]) rfl trivial (enters_of Tryz.func188 (by kernel_rfl) rfl)
    (split_gives 5 (by omega) (w.heap.size + 4) (w.heap.size + 5) (w.heap.size + 6) (by omega) (by omega) xs hne hx h10 W0 kS kC kK) (fun b hb => by rw [hW0]; omega) (fun _ => rfl)
    (fun pre W => (∃ v, Boxed W (w.heap.size + 3) 53 v ∧ W.ownsRow (w.heap.size + 2) 2 1 v pre.length (cI pre) ∧ True) ∧ (CapC W (w.heap.size + 4) ∧ CapC W (w.heap.size + 5) ∧ CapC W (w.heap.size + 6)) ∧ (Boxed W w.heap.size 53 (.slice none 0 0) ∧ Boxed W (w.heap.size + 1) 4 (.bool false)) ∧ Below w.heap.size w W ∧ w.heap.size + 7 ≤ W.heap.size)
    ?own ?cells ⟨⟨_, bL, r0, trivial⟩, ⟨⟨_, _, by decide, kS⟩, ⟨_, _, by decide, kC⟩, ⟨_, _, by decide, kK⟩⟩, ⟨bR, bO⟩, B0, by omega⟩
    (fun x => { tmps := #[.string (bstr (numsT xs)), .int .i64 (xs.length : Int), undef, undef, .pointer (some ⟨w.heap.size, 0, none⟩), .pointer (some ⟨w.heap.size + 1, 0, none⟩), .pointer (some ⟨w.heap.size + 3, 0, none⟩), .string (bstr (Lib.itoa x)), undef, undef, .int .i64 (xs.length : Int), .slice (some ⟨w.heap.size + 2, 0, none⟩) 0 xs.length, .string (bstr (numsT xs)), .func (.func 188) #[] #[.pointer (some ⟨w.heap.size + 5, 0, none⟩), .pointer (some ⟨w.heap.size + 4, 0, none⟩), .pointer (some ⟨w.heap.size + 6, 0, none⟩)], .string (bstr (Lib.itoa x)), undef, undef, undef, undef, undef, undef, undef, undef, undef, undef, undef, undef, undef, undef, undef, undef, undef, undef, undef, undef, undef, undef], defers := [] }) ?assign ?body ?done
  case own =>
    exact OwnFrom.and (Own.from (holdsRow_own (w.heap.size + 2) (w.heap.size + 3) 53 2 1 (fun pre : List Int => pre.length) (fun pre => cI pre) (fun _ _ => True)) _)
      (OwnFrom.and (OwnFrom.and (Own.from (capC_own _) _) (OwnFrom.and (Own.from (capC_own _) _) (Own.from (capC_own _) _))) (OwnFrom.and (OwnFrom.and (Own.from (boxed_own w.heap.size 53 (fun _ : List Int => .slice none 0 0)) _) (Own.from (boxed_own (w.heap.size + 1) 4 (fun _ : List Int => .bool false)) _))
        (OwnFrom.and (ownFrom_below (Nat.le_refl _) (by omega)) (fun s W W' row hs hg _ => Nat.le_trans hs hg.size))))
  case cells =>
    rintro pre W b u hb ⟨⟨v, hv, hrow, _⟩, ⟨q4, q5, q6⟩, ⟨hR, hO⟩, hB, hsz⟩
    have hbb : w.heap.size + 4 ≤ b ∧ b ≤ w.heap.size + 6 := by omega
    have hq : CapC W b := by rcases hb with rfl | rfl | rfl <;> assumption
    obtain ⟨t, u', ht, hq⟩ := hq
    exact ⟨⟨v, hv.other (by omega) _, hrow.kept (grownBy_setCell' W b u) (.inr (hq.not_row ht hrow).symm), trivial⟩, ⟨q4.set _ _, q5.set _ _, q6.set _ _⟩, ⟨hR.other (by omega) _, hO.other (by omega) _⟩, hB.setCell (p := ⟨b, 0, none⟩) (by show w.heap.size ≤ b; omega) _, by rw [World.size_setCell]; exact hsz⟩
  case assign =>
    intro l x W K hK
    gi_wp2
    exact hK
  case body =>
    rintro l pre x W ⟨⟨v, hv, hrow, _⟩, ⟨q4, q5, q6⟩, ⟨hR, hO⟩, hB, hsz⟩ hox hlt
    have PI := pint_ok (Lib.itoa x) x (parse_itoa x hox.1 (by have := hox.2; omega)) (by have := itoa_13 x hox.1 hox.2; omega) W
    obtain ⟨i0, hi, hz0, hz1, hz2⟩ := info_parts info_n64
    gi_wp2_with (first
      | (refine ⟨trivial, ?_⟩; gi_at_call 124; refine (CallsIn.inRound l (callsIn_wide.2 PI)).mono ?_; rintro e w1 ⟨rfl, b1⟩; have hv1 : Boxed w1 (w.heap.size + 3) 53 v := (b1.block _ hv.lt).trans hv; have hc1 := hv1.cell; have hrow1 := own_below hrow b1 fun k hk => (hrow.lt k hk).2; have hs1 := b1.size)
      | (gi_at_builtin; refine wpListIn_append_own _ rfl _ _ 53 rfl (w.heap.size + 2) 2 i0 (.int .i64 0) 1 8 Tryz.underlying53 hi hz0 hz1 hz2 rfl (by decide) _ _ _ rfl (hrow1.alloc _) ⟨w1.heap.size, 0, none⟩ 1 1 [.int .i64 x] rfl rfl (cell_one_new _ _ _) (by simp [Value.oneCell']) (by unfold maxLen; omega) (by omega) (by simp; omega) ?_; intro v' w2 hown' hgrow hnv; obtain ⟨g', cap', rfl⟩ := ownsRow_succ hown'; obtain ⟨hv2, hv3, hr3, hk3, hb3⟩ := hv1.appended (by decide) hrow1 (by omega) (by omega) hown' hgrow; have hc2 := hv2.cell; have hf2 := hv2.frozen))
    have hg' : (w1.alloc (.cells #[.int .i64 x] 2)).grownBy w2 v.ownBlock := hgrow
    have up : ∀ {t : TypeId} {u : Value} {b : Nat}, Boxed W b t u → Boxed w1 b t u := fun h => (b1.block _ h.lt).trans h
    have cap : ∀ b, b ≠ w.heap.size + 3 → CapC W b → CapC (w2.setCell ⟨w.heap.size + 3, 0, none⟩ (.slice (some ⟨g', 0, none⟩) (pre.length + 1) cap')) b ∧ (w2.setCell ⟨w.heap.size + 3, 0, none⟩ (.slice (some ⟨g', 0, none⟩) (pre.length + 1) cap')).heap[b]? = W.heap[b]? := fun b hb ⟨t, u, ht, h⟩ =>
      ⟨⟨t, u, ht, boxed_past (up h) ht hrow1 hg' hb _⟩, (past_same (up h) ht hrow1 hg' hb _).trans (b1.block _ h.lt)⟩
    have k4 := cap _ (by omega) q4
    have k5 := cap _ (by omega) q5
    have k6 := cap _ (by omega) q6
    have hsz3 := hb3.size
    refine ⟨(bel_keeps b1).trans (hk3.from _), ⟨⟨_, hv3, by rw [cI_append]; exact hr3⟩, ⟨k4.1, k5.1, k6.1⟩, ⟨boxed_past (up hR) (by decide) hrow1 hg' (by omega) _, boxed_past (up hO) (by decide) hrow1 hg' (by omega) _⟩, (hB.trans (b1.mono (by omega))).trans (hb3.mono (by omega)), ?_⟩, k4.2, k5.2, k6.2⟩
    rw [World.size_setCell] at hsz3
    omega
  case done =>
    rintro D W hD ⟨⟨v, hv, hrow, _⟩, _, ⟨hR, hO⟩, hB, hsz⟩ hK
    obtain ⟨A, c, rfl, _, _⟩ := own_form hrow
    have hrv : RV W A (cI xs) := RV.of_own hrow
    have e6 := hv.cell
    have z0 := hR.frozen
    have z1 := hO.frozen
    have y0 := hR.cell
    have y1 := hO.cell
    have dq : ((xs.length : Int) == (xs.length : Int)) = true := by simp
    have hGW := hG.bel hB hb
    have hbW : base ≤ W.heap.size := by omega
    have WC : ∀ W', Below W.heap.size W W' → Calls Tryz.prog 59 #[.slice A xs.length c] W' fun e w' => e = .returned (.string (bstr (numsT xs))) ∧ Below W'.heap.size W' w' := fun W' b => words_calls xs A c W' base (hGW.bel b hbW) (Nat.le_trans hbW b.size) (hrv.below b) h10 hx
    go_wp2_with fail
    have e6x : ∀ (x4 : World) (u : Value), x4.cell? ⟨w.heap.size + 3, 0, none⟩ = some (.slice A xs.length c) → (x4.setCell ⟨w.heap.size, 0, none⟩ u).cell? ⟨w.heap.size + 3, 0, none⟩ = some (.slice A xs.length c) := fun x4 u h => cell_off (by omega) h
    have e6y : ∀ (x4 : World) (u : Value), x4.cell? ⟨w.heap.size + 3, 0, none⟩ = some (.slice A xs.length c) → (x4.setCell ⟨w.heap.size + 1, 0, none⟩ u).cell? ⟨w.heap.size + 3, 0, none⟩ = some (.slice A xs.length c) := fun x4 u h => cell_off (by omega) h
    refine wp_mono (Q := fun e a' w' => match e with | .normal => NumEnd w W D A c xs a' w' | _ => False) ?_ ?_
    · go_region_held (fun wq => wq.cell? ⟨w.heap.size + 3, 0, none⟩ = some (.slice A xs.length c)) (first | exact e6 | exact e6w | exact e6x _ _ e6w | exact e6y _ _ (e6x _ _ e6w)) (first | (go_at_call 59; refine (WC _ (by first | exact Below.refl _ _ | exact (Below.refl _ _).drew | exact drewN_below _ _)).mono ?_; rintro _ w4 ⟨rfl, B4⟩; replace B4 : Below W.heap.size W w4 := ⟨B4.os, B4.tape, B4.output, B4.size, B4.block⟩; have e6w : w4.cell? ⟨w.heap.size + 3, 0, none⟩ = some (.slice A xs.length c) := cell_bel B4 e6; have hR4 : Boxed w4 w.heap.size 53 (.slice none 0 0) := (B4.block _ hR.lt).trans hR; have hO4 : Boxed w4 (w.heap.size + 1) 4 (.bool false) := (B4.block _ hO.lt).trans hO; have y0w := hR4.cell; have z0w := hR4.frozen; have y1w := hO4.cell; have z1w := hO4.frozen))
      exact ⟨rfl, rfl, rfl, (hR4.set _).other (by omega) _, (hO4.other (by omega) _).set _, fun k hk h0 h1 => (heap_setCell_other _ ⟨w.heap.size + 1, 0, none⟩ k _ h1).trans ((heap_setCell_other _ ⟨w.heap.size, 0, none⟩ k _ h0).trans (B4.block k hk)), ((hB.trans (B4.mono hB.size)).setCell (p := ⟨w.heap.size, 0, none⟩) (Nat.le_refl _) _).setCell (p := ⟨w.heap.size + 1, 0, none⟩) (Nat.le_succ _) _⟩
    · rintro (_ | _ | _ | _ | _ | _) a' w' h
      case normal =>
        have h' : NumEnd w W D A c xs a' w' := h
        clear h
        obtain ⟨tm, df⟩ := a'
        obtain rfl : df = [{ target := Target.collected D, args := #[] }] := h'.df
        go_wp2
        have hK2 : w'.heap[D]? = some (.deferred (some [])) := (h'.kd D (Array.getElem?_eq_some_iff.1 hK).1 (by omega) (by omega)).trans hK
        refine ⟨by simp, .inl ⟨_, _, rfl, run_takeDeferred hK2, ?_⟩⟩
        have c0 : Boxed (w'.putObj D (.deferred none)) w.heap.size 53 (.slice A xs.length c) := (World.putObj_heap_other (by omega)).trans h'.c0
        have c1 : Boxed (w'.putObj D (.deferred none)) (w.heap.size + 1) 4 (.bool true) := (World.putObj_heap_other (by omega)).trans h'.c1
        have t4 : tm[4]?.getD undef = .pointer (some ⟨w.heap.size, 0, none⟩) := by have := h'.t4; simpa using this
        have t5 : tm[5]?.getD undef = .pointer (some ⟨w.heap.size + 1, 0, none⟩) := by have := h'.t5; simpa using this
        have d0 := c0.cell
        have d1 := c1.cell
        refine ⟨.tuple #[.slice A xs.length c, .bool true], ?_, A, c, rfl, ?_, ?_, fun b off e => by have := (hrow.lt b (by rw [e]; rfl)).1; omega⟩
        · simp [results, Tryz.results79, go_sem, t4, t5, d0, d1]
        · intro hne'
          obtain ⟨b, off, e, q1, q2⟩ := hrv hne'
          have hb2 := (hrow.lt b (by rw [e]; rfl)).1
          have hbD : b ≠ D := fun e2 => by
            have hl : 0 < (cI xs).length := List.length_pos_iff.2 hne'
            have := q2 0 _ (List.getElem?_eq_getElem hl)
            subst e2
            simp [World.cell?, hK] at this
          have hbk : (w'.putObj D (.deferred none)).heap[b]? = W.heap[b]? := (World.putObj_heap_other hbD).trans (h'.kd b q1 (by omega) (by omega))
          exact ⟨b, off, e, by have := (Array.getElem?_eq_some_iff.1 (hbk.trans (Array.getElem?_eq_getElem q1))).1; exact this, fun j v hj => (World.cell?_of_block (w := W) hbk).trans (q2 j v hj)⟩
        · exact h'.bl.trans (belowK_b (w := w) (Nat.le_refl _) w' D _ _ (by omega) hK2 rfl rfl)
      all_goals exact h.elim
end Go.Proofs.YtendnkklbeiegaaGreatDoor
namespace Go.Proofs.YtendnkklbeiegaaGreatDoor
open Go.RowKit Go.Maps StoreP

theorem laidOut : laidOutB Tryz.prog = true := by kernel_rfl
theorem nmKeyed : Keyed Tryz.prog 40 := Keyed.of_law (deep_law_laid laidOut (m := 2) (by omega) (of_decide_eq_true (by kernel_rfl)) (by kernel_rfl) (by rw [Tryz.underlying40]))
theorem ntKeyed : Keyed Tryz.prog 2 := int_keyed Tryz.underlying2
theorem wf_nat (v : Nat) (hv : v ≤ 1000000) : (Lit.int .i64 (v : Int)).wf = true := by
  simp [Lit.wf, IntKind.min, IntKind.max, IntKind.signed, IntKind.bits]
  omega
theorem keyOf_nt (v : Nat) (hv : v ≤ 1000000) : keyOf Tryz.prog 2 (.int .i64 (v : Int)) = some (.int .i64 (v : Int)) := keyOf_int_mk Tryz.underlying2 (wf_nat v hv)
theorem lits_n64 (n : Nat) (v : Nat) (hv : v ≤ 1000000) : Tryz.prog.keyLits (n + 1) 2 [.int .i64 (v : Int)] = some [.int .i64 (v : Int)] := by
  simp [Program.keyLits, Tryz.underlying2, wf_nat v hv]
theorem keyOf_nm (n : Nm) (h : okN n) : ∃ kl, keyOf Tryz.prog 40 (nmV n) = some kl := by
  have c1 : Tryz.prog.cellsOf 2 = 1 := by kernel_rfl
  have c2 : Tryz.prog.cellsOf 40 = 2 := by kernel_rfl
  have h1 : Tryz.prog.keyType 40 = true := by kernel_rfl
  obtain ⟨k, hk⟩ : ∃ n, Tryz.prog.types.size + 1 = n + 2 := ⟨Tryz.prog.types.size - 1, by
    have : 1 ≤ Tryz.prog.types.size := of_decide_eq_true (by kernel_rfl)
    omega⟩
  have e1 := lits_n64 k n.1 (by have := h.1; omega)
  have e2 := lits_n64 k n.2 (by have := h.2; omega)
  have e : Tryz.prog.keyLits (k + 2) 40 [.int .i64 (n.1 : Int), .int .i64 (n.2 : Int)] = some [.int .i64 (n.1 : Int), .int .i64 (n.2 : Int)] := by
    unfold Program.keyLits
    simp only [Tryz.underlying40]
    simp [c1, c2, e1, e2]
  unfold keyOf nmV
  rw [Tryz.underlying40, hk]
  simp [h1, Value.formed, Tryz.underlying40, c2, Value.cells, e]
theorem index_32 : ∀ (a r : List UInt8), (∀ c ∈ a, c ≠ 32) → Lib.index (a ++ 32 :: r) [32] = (a.length : Int)
  | [], r, _ => by
    unfold Lib.index
    simp
  | c :: a, r, h => by
    have hc : c ≠ 32 := h c (by simp)
    have ih := index_32 a r (fun d hd => h d (by simp [hd]))
    rw [List.cons_append]
    unfold Lib.index
    rw [if_neg (by simp [Ne.symm hc]), ih, if_neg (by simp)]
    simp
theorem cut_32 (a r : List UInt8) (h : ∀ c ∈ a, c ≠ 32) : Lib.cut (a ++ 32 :: r) [32] = (a, r, true) := by
  unfold Lib.cut
  rw [index_32 a r h, if_pos (by omega)]
  simp
theorem cutb_calls (a r : List UInt8) (h : ∀ c ∈ a, c ≠ 32) (hl : a.length + r.length ≤ 100000) (w : World) (base : Nat) (hG : Glob w base) :
    Calls Tryz.prog 78 #[.string (bstr (a ++ 32 :: r)), .string ⟨#[32]⟩] w fun e w' => e = .returned (.tuple #[.string (bstr a), .string (bstr r), .bool true]) ∧ ∃ n, w' = w.drewN n := by
  obtain ⟨m, hm⟩ := hG.len
  have e1 : (bstr (a ++ 32 :: r)).data.toList = a ++ 32 :: r := bstr_data _
  refine (Tryz.strings_Cut (bstr (a ++ 32 :: r)) ⟨#[32]⟩ m w (by rw [bstr_size]; simp; omega) hm).mono ?_
  rintro e w' ⟨rfl, hn⟩
  have e2 : (⟨#[32]⟩ : ByteArray).data.toList = [32] := rfl
  rw [e1, e2, cut_32 a r h]
  exact ⟨rfl, hn⟩
end Go.Proofs.YtendnkklbeiegaaGreatDoor
namespace Go.Proofs.YtendnkklbeiegaaGreatDoor
open Go.RowKit Go.Maps Go.Sort Go.Shelf StoreP

theorem encS_inv {f : Nm → Option Slot} {u : Value} (h : (encS f u).isSome = true) : ∃ n, u = nmV n ∧ (f n).isSome = true := by
  unfold encS at h
  split at h
  · rename_i a b
    split at h
    · rename_i hab
      refine ⟨(a.toNat, b.toNat), ?_, by simpa using h⟩
      unfold nmV
      simp only
      rw [Int.toNat_of_nonneg hab.1, Int.toNat_of_nonneg hab.2]
    · cases h
  · cases h
theorem nmV_inj {n m : Nm} (h : nmV n = nmV m) : n = m := by
  obtain ⟨a, b⟩ := n
  obtain ⟨c, d⟩ := m
  unfold nmV at h
  simp at h
  exact Prod.ext (by omega) (by omega)
/-- Which names have come. -/
def ColN (f : Nm → Option Slot) (left : Lit → Bool) (ss : List Nm) : Prop := ss.Nodup ∧ (∀ n ∈ ss, (f n).isSome = true) ∧ ∀ n kl, keyOf Tryz.prog 40 (nmV n) = some kl → (n ∈ ss ↔ ((f n).isSome = true ∧ left kl = false))
theorem ColN.step {f : Nm → Option Slot} {left : Lit → Bool} {ss : List Nm} (h : ColN f left ss) {n : Nm} {kl : Lit} (hn : (f n).isSome = true) (hk : keyOf Tryz.prog 40 (nmV n) = some kl) (hl : left kl = true) : ColN f (fun z => left z && !z.sameKey kl) (ss ++ [n]) := by
  obtain ⟨h1, h2, h3⟩ := h
  have hnew : n ∉ ss := fun hx => by have := ((h3 n kl hk).1 hx).2; rw [hl] at this; cases this
  refine ⟨List.nodup_append.2 ⟨h1, by simp, fun a ha b hb => by simp at hb; subst hb; exact fun e => hnew (e ▸ ha)⟩, fun m hm => ?_, fun m km hkm => ?_⟩
  · rcases List.mem_append.1 hm with hm | hm
    · exact h2 m hm
    · simp at hm; subst hm; exact hn
  · by_cases e : m = n
    · subst e
      obtain rfl : kl = km := Option.some.inj (hk.symm.trans hkm)
      have hs : kl.sameKey kl = true := WideAt.sameKey_self (nmKeyed.key hk)
      simp [hs, hn]
    · have e' : km ≠ kl := fun q => e (nmV_inj (nmKeyed.inj hkm (q ▸ hk)))
      have hs : km.sameKey kl = false := sameKey_ne e'
      simp [hs, h3 m km hkm, e]
set_option maxRecDepth 100000 in
set_option maxHeartbeats 1000000 in
theorem nmkeys_in (n : Nat) (hn : 1 ≤ n) (l Bm M mn : Nat) (f : Nm → Option Slot) (hok : ∀ m, (f m).isSome = true → okN m) (J Jx : List Nm → World → Prop)
    (hY : ∀ pre x W, J pre W → pre.length < mn → YieldAt Fence.wide (n - 1) Tryz.prog l #[nmV x] W fun e W' =>
      (e = .returned (.bool true) ∧ J (pre ++ [x]) W' ∧ KeepsWalks W W') ∨ (e = .returned (.bool false) ∧ Jx (pre ++ [x]) W'))
    (W : World) (hJ : AbidesFrom W.heap.size J) (hm : W.cell? ⟨Bm, 0, none⟩ = some (.map (some M))) (hM : MapV W 40 M mn (encS f)) (h0 : J [] W) :
    CallsIn Fence.wide n Tryz.prog 89 #[.func (.yield l) #[] #[], .pointer (some ⟨Bm, 0, none⟩)] W fun e W' => (∃ v, e = .returned v) ∧
      ((∃ ss : List Nm, (ss.Nodup ∧ ss.length ≤ mn ∧ ∀ x, x ∈ ss ↔ (f x).isSome = true) ∧ J ss W') ∨ (∃ pre : List Nm, True ∧ Jx pre W')) := by
  obtain ⟨D0, hown, hsz, hF⟩ := hM
  refine callsIn_of_wp Tryz.func89 rfl trivial ?_ rfl
  simp only [Tryz.ntmps89, List.size_toArray, List.length_cons, List.length_nil, Nat.reduceAdd, Nat.reduceSub, Array.replicate_succ, Array.replicate_zero, List.push_toArray, List.append_toArray, List.nil_append, List.cons_append]
  gi_wp2_with (first
    | (gi_at_range; refine wpListIn_range_own _ rfl _ 95 rfl 40 112 nmKeyed Tryz.underlying95 anyE M mn _ rfl hown ?_; intro w0 hrg0 hg0 hs0)
    | gi_in)
  go_frame
  gi_loopw [3] (fun _ wr => ∃ (left : Lit → Bool) (cnt : Nat) (ss : List Nm), wr.ranges Tryz.prog 40 anyE M W.heap.size mn D0 left cnt ∧ ss.length + cnt ≤ mn ∧ ColN f left ss ∧ J ss wr)
    (fun _ wr => wr.rangeLeft M W.heap.size)
  case atStart =>
    refine ⟨_, _, [], hrg0, by simp [hsz], ⟨List.nodup_nil, fun _ h => (by cases h), fun m km hkm => ?_⟩, hJ [] W w0 none h0 hg0 (fun r e => by cases e)⟩
    have := (hF (nmV m) km hkm).1
    rw [encS_at] at this
    cases hc : f m <;> simp [hc] at this ⊢
    exact this
  case round =>
    obtain ⟨left, cnt, ss, hrg, hcs, hC, hJs⟩ := hrel
    gi_wp2_with (first
      | (gi_at_next; refine wpListIn_next_ranges _ rfl _ rfl 40 nmKeyed anyE (id : Value → Value) (id : Value → Value) (fun key kl _ => ⟨key, rfl⟩) (fun v _ _ => ⟨v, rfl⟩) M W.heap.size mn _ _ _ rfl hrg ?_ ?_)
      | gi_in)
    · -- nothing is left
      intro hc0 hl0
      gi_wp2
      go_end0
      refine ⟨⟨_, rfl⟩, .inl ⟨ss, ⟨hC.1, by omega, fun x => ⟨hC.2.1 x, fun hx => ?_⟩⟩, hJs⟩⟩
      obtain ⟨kl, hkl⟩ := keyOf_nm x (hok x hx)
      exact (hC.2.2 x kl hkl).2 ⟨hx, hl0 kl⟩
    · -- a name has come
      intro x c kl y yp w2 cnt2 hkey hlk hv hat hrg2 hlt hg2 hs2 hen
      have hhas : Maps.has D0 kl = true := has_true_of_atKey hat
      have hsome : (encS f x).isSome = true := by rw [← (hF x kl hkey).1]; exact hhas
      obtain ⟨m, rfl, hfm⟩ := encS_inv hsome
      have hJ2 : J ss w2 := hJ ss wr w2 (some W.heap.size) hJs hg2 (fun r e => by cases e; exact ⟨Nat.le_refl _, hrg.iter_walk⟩)
      have hJ3 : J ss (w2.alloc (.cells #[.int .i64 (m.1 : Int), .int .i64 (m.2 : Int)] 40)) := hJ ss w2 _ none hJ2 (World.grownBy_alloc _ _ _) (fun r e => by cases e)
      obtain ⟨fn, tmps, assign, body, hy, hR⟩ := hY ss m _ hJ3 (by omega)
      unfold nmV at hy hen
      clear hs2
      have hC2 := hC.step hfm hkey hlk
      gi_wp2
      refine hR.mono ?_
      rintro e W3 (⟨rfl, hJ4, hk3⟩ | ⟨rfl, hJx3⟩)
      · gi_wp2
        have hrg3 := hrg2.of_walks ((KeepsWalks.alloc w2 _).trans hk3)
        go_roundw
        case rel => exact ⟨_, cnt2, ss ++ [m], hrg3, by simp; omega, hC2, hJ4⟩
        case measure => rw [hrg3.left_eq, hrg.left_eq]; exact hlt
      · gi_wp2
        refine bodyPost_ret (results_none rfl _ _ _) rfl ?_
        exact ⟨⟨_, rfl⟩, .inr ⟨ss ++ [m], trivial, hJx3⟩⟩
/-- maps.Keys(m): the map is boxed. -/
theorem nmKeys_calls (M : Nat) (w : World) :
    Calls Tryz.prog 39 #[.map (some M)] w fun e w' => e = .returned (.func (.func 89) #[] #[.pointer (some ⟨w.heap.size, 0, none⟩)]) ∧ w' = w.alloc (.cells #[.map (some M)] 95) := by
  go_enter Tryz.func39, Tryz.ntmps39
  go_wp2
  go_ret
  exact ⟨rfl, rfl⟩
/-- It is an iterator over the names. -/
theorem nmkeys_stops (n : Nat) (hn : 1 ≤ n) (Bm M mn : Nat) (f : Nm → Option Slot) (hok : ∀ m, (f m).isSome = true → okN m) (w : World) (hBm : Bm < w.heap.size) (hm : w.cell? ⟨Bm, 0, none⟩ = some (.map (some M))) (hM : MapV w 40 M mn (encS f)) :
    SeqStopsK Fence.wide n Tryz.prog 89 #[.pointer (some ⟨Bm, 0, none⟩)] (fun x : Nm => #[nmV x]) KeepsWalks (fun ss => ss.Nodup ∧ ss.length ≤ mn ∧ ∀ x, x ∈ ss ↔ (f x).isSome = true) (fun _ => True) mn w := fun l J Jx W hW hJ _ hY h0 =>
  nmkeys_in n hn l Bm M mn f hok J Jx hY W hJ ((hW.cell (p := ⟨Bm, 0, none⟩) hBm).trans hm) (hM.of_block (hW.block M hM.lt)) h0
end Go.Proofs.YtendnkklbeiegaaGreatDoor
namespace Go.Proofs.YtendnkklbeiegaaGreatDoor
open Go.RowKit Go.Maps Go.Sort Go.Shelf StoreP ExtP
attribute [local go_sem] Oper.semAt_some

def LiveN (f : Nm → Option Slot) (ss : List Nm) : Prop := ss.Nodup ∧ ∀ x, x ∈ ss ↔ (f x).isSome = true
theorem blk_own {β : Type} (B : Nat) (t : TypeId) (cs : Array Value) : Own (fun (_ : β) W => Blk W B t cs) := fun s X Y row h hg hrow => by
  have hlt := Blk.lt h
  refine (hg.block B hlt fun e => ?_).trans h
  obtain ⟨o, ho, hc⟩ := hrow B e.symm
  rw [show X.heap[B]? = _ from h] at ho
  cases ho
  cases hc
theorem info_nm : (Tryz.prog.info? 40).map (fun i => (i.zero, i.size, i.bytes)) = some (some (.agg #[.int .i64 0, .int .i64 0]), 2, 16) := by kernel_rfl
theorem cell_two_new (w : World) (x y : Value) (t : TypeId) : ∀ j u, [x, y][j]? = some u → (w.alloc (.cells #[x, y] t)).cell? ((⟨w.heap.size, 0, none⟩ : Addr).add j) = some u := by
  intro j u hj
  have h := Blk.new w t #[x, y]
  rw [add_zero_off]
  exact h.at_ (by simpa using hj)
set_option maxRecDepth 100000 in
set_option maxHeartbeats 2000000 in
theorem nmAppend_calls (Bm M mn : Nat) (hmn : mn ≤ 100000) (f : Nm → Option Slot) (hok : ∀ m, (f m).isSome = true → okN m) (w : World) (hBm : Bm < w.heap.size) (hm : w.cell? ⟨Bm, 0, none⟩ = some (.map (some M))) (hM : MapV w 40 M mn (encS f)) :
    Calls Tryz.prog 129 #[.slice none 0 0, .func (.func 89) #[] #[.pointer (some ⟨Bm, 0, none⟩)]] w fun e w' =>
      ∃ (v : Value) (ss : List Nm), e = .returned v ∧ LiveN f ss ∧ ss.length ≤ mn ∧ w'.ownsRow w.heap.size 40 2 v ss.length (eC ss) ∧ Below w.heap.size w w' := by
  refine (callsIn_wide (n := 6)).1 ?_
  refine callsIn_of_wp_marks Tryz.func129 rfl trivial ?_ rfl
  simp only [Tryz.ntmps129, List.size_toArray, List.length_cons, List.length_nil, Nat.reduceAdd, Nat.reduceSub, Array.replicate_succ, Array.replicate_zero, List.push_toArray, List.append_toArray, List.nil_append, List.cons_append]
  gi_wp2
  have bO := Boxed.new w 32 (.slice none 0 0)
  have hB0 : Below w.heap.size w (w.alloc (.cells #[.slice none 0 0] 32)) := (Below.refl _ w).alloc (Nat.le_refl _) _
  refine wpIn_rangeFunc_ownH rfl (by omega) (gf := 89) (lb := #[.pointer (some ⟨Bm, 0, none⟩)]) rfl trivial (enters_of Tryz.func89 (by kernel_rfl) rfl)
    (nmkeys_stops 5 (by omega) Bm M mn f hok _ (by simp; omega) (cell_bel hB0 hm) (hM.alloc _)) walksK_t walksK_b (Below.refl _ _) (fun _ => rfl)
    (fun pre W => (∃ v, Boxed W w.heap.size 32 v ∧ W.ownsRow w.heap.size 40 2 v pre.length (eC pre) ∧ True) ∧ Below w.heap.size w W)
    (fun _ _ _ => False)
    (OwnFrom.and (Own.from (holdsRow_own w.heap.size w.heap.size 32 40 2 (fun pre : List Nm => pre.length) (fun pre => eC pre) (fun _ _ => True)) _) (ownFrom_below (Nat.le_refl _) (by simp)))
    (fun _ _ _ _ _ hs _ _ => hs)
    ⟨⟨_, bO, World.ownsRow_nil _ _ _ _, trivial⟩, hB0⟩
    (fun x a' W => ∃ Bx, w.heap.size < Bx ∧ Blk W Bx 40 #[.int .i64 (x.1 : Int), .int .i64 (x.2 : Int)] ∧ a' = { tmps := #[.slice none 0 0, .func (.func 89) #[] #[.pointer (some ⟨Bm, 0, none⟩)], .pointer (some ⟨w.heap.size, 0, none⟩), undef, .slice none 0 0, .pointer (some ⟨Bx, 0, none⟩), .func (.func 89) #[] #[.pointer (some ⟨Bm, 0, none⟩)], nmV x, undef, undef, undef, undef, undef], defers := [] })
    ?ax ?assign ?body ?done ?stop
  case ax =>
    rintro x a' _ X Y row ⟨Bx, hx, hb, e⟩ hg hr
    exact ⟨Bx, hx, blk_own (β := Unit) Bx _ _ () X Y row hb hg (fun r e => (hr r e).2), e⟩
  case assign =>
    rintro l pre x W K ⟨⟨v, hv, hrow, _⟩, hB⟩ hK
    unfold nmV at hK ⊢
    gi_wp2
    exact hK _ _ ((KeepsOthers.alloc _ _).from _) (KeepsWalks.alloc _ _) ⟨⟨v, hv.alloc _, hrow.alloc _, trivial⟩, hB.alloc hB.size _⟩ ⟨W.heap.size, hv.lt, Blk.new W _ _, rfl⟩
  case body =>
    rintro l pre x a' W hl _ ⟨⟨v, hv, hrow, _⟩, hB⟩ ⟨Bx, hBx, bX, rfl⟩ hlt
    have hc := hv.cell
    have x0 := bX.at_ (i := 0) rfl
    have x1 := bX.at_ (i := 1) rfl
    obtain ⟨i0, hi, hz0, hz1, hz2⟩ := info_parts info_nm
    gi_wp2_with (gi_at_builtin; refine wpListIn_append_own _ rfl _ _ 32 rfl w.heap.size 40 i0 (.agg #[.int .i64 0, .int .i64 0]) 2 16 Tryz.underlying32 hi hz0 hz1 hz2 rfl (by decide) _ _ _ rfl (hrow.alloc _) ⟨W.heap.size, 0, none⟩ 1 1 [.int .i64 (x.1 : Int), .int .i64 (x.2 : Int)] rfl rfl (cell_two_new _ _ _ _) (by simp [Value.oneCell']) (by unfold maxLen; omega) (by omega) (by have := hB.size; simp; omega) ?_; intro v' w1 hown' hgrow _; obtain ⟨g', cap', rfl⟩ := ownsRow_succ hown'; obtain ⟨hv1, hv2, hr2, hk2, hb2⟩ := hv.appended (by decide) hrow hB.size (Nat.le_refl _) hown' hgrow; have hc1 := hv1.cell; have hf1 := hv1.frozen)
    exact ⟨hk2.from _, hk2.walks, ⟨_, hv2, by rw [eC_append]; simpa [eC, exC] using hr2⟩, hB.trans hb2⟩
  case done =>
    rintro D ys W hD ⟨h1, h2, h3⟩ ⟨⟨v, hv, hrow, _⟩, hB⟩ hK
    have hc := hv.cell
    gi_wp2
    refine ⟨by simp, .inl ⟨_, _, rfl, run_takeDeferred hK, ?_⟩⟩
    exact ⟨_, results_tmp rfl _ _ _, v, ys, rfl, ⟨h1, h3⟩, h2, ownsRow_putObj hrow _ hK rfl, hB.trans (belowK_b (w := w) (Nat.le_refl _) W D _ _ (by simp at hD; omega) hK rfl rfl)⟩
  case stop =>
    rintro D c pre W _ _ h _
    exact h.elim
end Go.Proofs.YtendnkklbeiegaaGreatDoor
