/-
  A chain of '&&' behind the first false: all that is left is passed over at once.
-/
import Derived.Test.YtiokbebodblhaaaGreatDoorTMemo
import Derived.Shelf.Strings.BuilderK
import Derived.Test.YtiokbebodblhaaaGreatDoorChecked
namespace Go.Proofs.YtiokbebodblhaaaGreatDoor
open Go.RowKit

/-- The slots F hold false. -/
def FalseAt (a : Act) (n : Nat) (F : List Nat) : Prop := a.tmps.size = n ∧ ∀ s ∈ F, a.tmps[s]? = some (.bool false)
def dropS (d : Option Nat) (F : List Nat) : List Nat := match d with
  | some d => F.filter fun s => decide (s ≠ d)
  | none => F
def deadOp (ops : Array Oper) (n : Nat) (o : Oper) (F : List Nat) : Option (List Nat) :=
  match o.guard with
  | some (j, true) => match (ops[j]?).bind (·.dst) with
    | some s => if F.contains s then some (dropS o.dst F) else none
    | none => none
  | some (_, false) => none
  | none => match o.op, o.dst with
    | .move (.tmp s), some d => if F.contains s && decide (d < n) then some (d :: F) else none
    | .assign (.tmp s), some d => if F.contains s && decide (d < n) then some (d :: F) else none
    | .pick (.tmp s) _ (.const (.bool false)), some d => if F.contains s && decide (d < n) then some (d :: F) else none
    | _, _ => none
def deadOps (ops : Array Oper) (n : Nat) : List Oper → List Nat → Option (List Nat)
  | [], F => some F
  | o :: r, F => (deadOp ops n o F).bind (deadOps ops n r)
theorem FalseAt.passed {a : Act} {n : Nat} {F : List Nat} (h : FalseAt a n F) (d : Option Nat) : FalseAt (a.put d undef) n (dropS d F) := by
  cases d with
  | none => exact h
  | some d =>
    refine ⟨by simpa [Act.put] using h.1, fun s hs => ?_⟩
    unfold dropS at hs
    rw [List.mem_filter] at hs
    have hne : d ≠ s := fun e => by simp [e] at hs
    show (a.tmps.setIfInBounds d undef)[s]? = _
    rw [Array.getElem?_setIfInBounds_ne hne]
    exact h.2 s hs.1
theorem FalseAt.put_ {a : Act} {n : Nat} {F : List Nat} (h : FalseAt a n F) (d : Nat) (hd : d < n) : FalseAt (a.put (some d) (.bool false)) n (d :: F) := by
  refine ⟨by simpa [Act.put] using h.1, fun s hs => ?_⟩
  show (a.tmps.setIfInBounds d (.bool false))[s]? = _
  by_cases e : d = s
  · subst e
    rw [Array.getElem?_setIfInBounds_self_of_lt (by rw [h.1]; exact hd)]
  · rw [Array.getElem?_setIfInBounds_ne e]
    rcases List.mem_cons.1 hs with rfl | hs
    · exact absurd rfl e
    · exact h.2 s hs
theorem FalseAt.eval {a : Act} {n : Nat} {F : List Nat} (h : FalseAt a n F) {s : Nat} (hs : s ∈ F) : a.eval (.tmp s) = .bool false := by
  show a.tmps.getD s undef = _
  rw [Array.getD_eq_getD_getElem?, h.2 s hs]
  rfl
theorem dead_op {P : Program} {ops : Array Oper} {n : Nat} {Q : Exit → Act → World → Prop} {o : Oper} {r : List Oper} {F F' : List Nat} {a : Act} {w : World} (hd : deadOp ops n o F = some F') (h : FalseAt a n F)
    (k : ∀ a', FalseAt a' n F' → a'.defers = a.defers → wpList P ops Q r a' w) : wpList P ops Q (o :: r) a w := by
  unfold deadOp at hd
  split at hd
  · rename_i j hg
    split at hd
    · rename_i s hs
      split at hd
      · rename_i hc
        injection hd with hd
        have hm : s ∈ F := by simpa using hc
        have hw : Region.wanted o (yielded ops a.tmps) = false := by
          unfold Region.wanted
          rw [hg]
          unfold yielded
          simp only [hs, Option.bind_some, h.2 s hm]
          rfl
        refine wpList_skip hw (k _ ?_ ?_)
        · rw [← hd]; exact h.passed o.dst
        · cases o.dst <;> rfl
      · cases hd
    · cases hd
  · cases hd
  · rename_i hg
    have hw : Region.wanted o (yielded ops a.tmps) = true := by unfold Region.wanted; rw [hg]
    have go : ∀ (s d : Nat), o.dst = some d → (F.contains s && decide (d < n)) = true → some (d :: F) = some F' → (a.eval (.tmp s) = .bool false → o.wp P a w (wpList P ops Q r) Q) → wpList P ops Q (o :: r) a w := by
      intro s d _ hc hF hq
      simp only [Bool.and_eq_true, decide_eq_true_eq] at hc
      simp only [wpList, hw, if_true]
      exact .inl (hq (h.eval (by simpa using hc.1)))
    have done : ∀ (s d : Nat), o.dst = some d → (F.contains s && decide (d < n)) = true → some (d :: F) = some F' → wpList P ops Q r (a.put o.dst (.bool false)) w := by
      intro s d hd' hc hF
      simp only [Bool.and_eq_true, decide_eq_true_eq] at hc
      injection hF with hF
      refine k _ ?_ ?_
      · rw [hd', ← hF]; exact h.put_ d hc.2
      · rw [hd']; rfl
    split at hd
    · rename_i s d ho hd'
      split at hd
      · rename_i hc
        refine go s d hd' hc hd fun he => BigFrame.wp_move _ ho ?_
        rw [he]
        exact done s d hd' hc hd
      · cases hd
    · rename_i s d ho hd'
      split at hd
      · rename_i hc
        refine go s d hd' hc hd fun he => BigFrame.wp_assign _ ho ?_
        rw [he]
        exact done s d hd' hc hd
      · cases hd
    · rename_i s x d ho hd'
      split at hd
      · rename_i hc
        refine go s d hd' hc hd fun he => ?_
        unfold Oper.wp execOp
        simp only [ho, he]
        exact done s d hd' hc hd
      · cases hd
    · cases hd
theorem dead_tail {P : Program} {ops : Array Oper} {n : Nat} {Q : Exit → Act → World → Prop} {w : World} : ∀ (l : List Oper) (F F' : List Nat) (a : Act), deadOps ops n l F = some F' → FalseAt a n F → (∀ a', FalseAt a' n F' → a'.defers = a.defers → Q .normal a' w) → wpList P ops Q l a w
  | [], F, F', a, hd, h, k => by
    injection hd with hd
    subst hd
    exact k a h rfl
  | o :: r, F, F', a, hd, h, k => by
    obtain ⟨F1, h1, h2⟩ := Option.bind_eq_some_iff.1 hd
    exact dead_op h1 h fun a1 f1 e1 => dead_tail r F1 F' a1 h2 f1 fun a2 f2 e2 => k a2 f2 (e2.trans e1)
end Go.Proofs.YtiokbebodblhaaaGreatDoor
namespace Go.Proofs.YtiokbebodblhaaaGreatDoor
open Go.RowKit

/-- What is asked behind the first part: the second one is walked. -/
def CutQ (P : Program) (ops : Array Oper) (Q : Exit → Act → World → Prop) (l : List Oper) (e : Exit) (a : Act) (w : World) : Prop :=
  match e with
  | .normal => wpList P ops Q l a w
  | e => Q e a w
theorem CutQ.go_ {P : Program} {ops : Array Oper} {Q : Exit → Act → World → Prop} {l : List Oper} {a : Act} {w : World} (h : wpList P ops Q l a w) : CutQ P ops Q l .normal a w := h
theorem oper_wp_monoQ {P : Program} {o : Oper} {a : Act} {w : World} {K K' : Act → World → Prop} {Q Q' : Exit → Act → World → Prop} (h : ∀ a w, K a w → K' a w)
    (hQ : ∀ c a w, Q (.panic c) a w → Q' (.panic c) a w) (hL : LetsOut Q → LetsOut Q') (hh : o.wp P a w K Q) : o.wp P a w K' Q' := by
  unfold Oper.wp at *
  generalize (execOp a.eval o).run P w = r at *
  cases r with
  | ok n w' =>
    cases n <;> simp only [Oper.upon] at hh ⊢ <;>
      first
        | exact h _ _ hh
        | exact Calls.mono hh (fun e w'' he => by cases e <;> first | exact h _ _ he | exact hQ _ _ _ he | exact hL he)
        | exact Rows.mono hh (fun _ _ he => h _ _ he)
  | halt x w' => cases x <;> simp only [Oper.upon] at hh ⊢ <;> first | exact hQ _ _ _ hh | exact hh
theorem wpList_cut {P : Program} {ops : Array Oper} {Q : Exit → Act → World → Prop} {l2 : List Oper} : ∀ (l1 : List Oper) (a : Act) (w : World), wpList P ops (CutQ P ops Q l2) l1 a w → wpList P ops Q (l1 ++ l2) a w
  | [], _, _, h => h
  | o :: r, a, w, h => by
    have hL : LetsOut (CutQ P ops Q l2) → LetsOut Q := fun ⟨a, w, h⟩ => ⟨a, w, h⟩
    simp only [wpList, List.cons_append] at h ⊢
    split
    · rename_i hw
      simp only [hw, if_true] at h
      rcases h with h | ⟨h1, h2⟩
      · exact .inl (oper_wp_monoQ (fun a w k => wpList_cut r a w k) (fun _ _ _ k => k) hL h)
      · exact .inr ⟨h1, hL h2⟩
    · rename_i hw
      simp only [hw, Bool.false_eq_true, if_false] at h
      exact wpList_cut r _ _ h
/-- Cut behind the first n operations. -/
theorem wpList_cutAt {P : Program} {ops : Array Oper} {Q : Exit → Act → World → Prop} {l : List Oper} {a : Act} {w : World} (n : Nat) (h : wpList P ops (CutQ P ops Q (l.drop n)) (l.take n) a w) : wpList P ops Q l a w := by
  have := wpList_cut (l.take n) a w h
  rwa [List.take_append_drop] at this
/- ### The edges of an order play no part where the order is given: they are laid aside -/
def bareOp (o : Oper) : Oper := ⟨o.dst, o.op, o.type, "", #[], o.guard⟩
def nubOp (o : Oper) : Oper := ⟨o.dst, .move (.tmp 0), 0, "", #[], none⟩
theorem bare_wp {P : Program} {o : Oper} {a : Act} {w : World} {K : Act → World → Prop} {Q : Exit → Act → World → Prop} (h : (bareOp o).wp P a w K Q) : o.wp P a w K Q := h
theorem bare_asks {P : Program} {o : Oper} {a : Act} {w : World} (h : (bareOp o).asks P a w) : o.asks P a w := h
theorem nub_yielded (ops : List Oper) (t : Array Value) : yielded (ops.map nubOp).toArray t = yielded ops.toArray t := by
  funext j
  unfold yielded
  simp only [List.getElem?_toArray, List.getElem?_map]
  cases ops[j]? <;> rfl
theorem wpList_bare {P : Program} {ops : List Oper} {Q : Exit → Act → World → Prop} : ∀ (l : List Oper) (a : Act) (w : World), wpList P (ops.map nubOp).toArray Q (l.map bareOp) a w → wpList P ops.toArray Q l a w
  | [], _, _, h => h
  | o :: r, a, w, h => by
    simp only [wpList, List.map_cons, nub_yielded] at h ⊢
    have hw : Region.wanted (bareOp o) (yielded ops.toArray a.tmps) = Region.wanted o (yielded ops.toArray a.tmps) := rfl
    rw [hw] at h
    split
    · rename_i hw
      simp only [hw, if_true] at h
      rcases h with h | ⟨h1, h2⟩
      · exact .inl (Oper.wp_mono (fun a w k => wpList_bare r a w k) (bare_wp h))
      · exact .inr ⟨bare_asks h1, h2⟩
    · rename_i hw
      simp only [hw, Bool.false_eq_true, if_false] at h
      exact wpList_bare r _ _ h
theorem wp_region_bare {P : Program} {Q : Exit → Act → World → Prop} {id : Nat} {l : List Oper} {a : Act} {w : World} (h : wpList P (l.map nubOp).toArray Q (l.map bareOp) a w) : (Code.region id l.toArray false).wp P Q a w :=
  wp_region_lit (wpList_bare l a w h)
def deadEnd (ops : Array Oper) (n : Nat) (l : List Oper) (F : List Nat) (t : Nat) : Bool := match deadOps ops n l F with
  | some F' => F'.contains t
  | none => false
theorem dead_end {P : Program} {ops : Array Oper} {n : Nat} {Q : Exit → Act → World → Prop} {w : World} {l : List Oper} {a : Act} (F : List Nat) (t : Nat) (hd : deadEnd ops n l F t = true) (h : FalseAt a n F)
    (k : ∀ a', a'.tmps.getD t undef = .bool false → a'.defers = a.defers → Q .normal a' w) : wpList P ops Q l a w := by
  unfold deadEnd at hd
  split at hd
  · rename_i F' hF
    exact dead_tail l F F' a hF h fun a' fa da => k a' (fa.eval (by simpa using hd)) da
  · cases hd
theorem dead_end1 {P : Program} {ops : Array Oper} {n : Nat} {Q : Exit → Act → World → Prop} {w : World} {l : List Oper} {a : Act} (s t : Nat) (hd : deadEnd ops n l [s] t = true) (h1 : a.tmps.size = n) (h2 : a.tmps[s]? = some (.bool false))
    (k : ∀ a', a'.tmps.getD t undef = .bool false → a'.defers = a.defers → Q .normal a' w) : wpList P ops Q l a w :=
  dead_end [s] t hd ⟨h1, fun s' hs => by rw [List.mem_singleton] at hs; subst hs; exact h2⟩ k
/-- One operation alone. -/
theorem wpList_one {P : Program} {ops : Array Oper} {Q : Exit → Act → World → Prop} {o : Oper} {rest : List Oper} {a : Act} {w : World} (hw : Region.wanted o (yielded ops a.tmps) = true)
    (h : ∀ K : Act → World → Prop, (∀ a w, wpList P ops Q rest a w → K a w) → o.wp P a w K Q) : wpList P ops Q (o :: rest) a w :=
  wpList_step fun K hK => by rw [if_pos hw]; exact h K hK
end Go.Proofs.YtiokbebodblhaaaGreatDoor
namespace Go.Proofs.YtiokbebodblhaaaGreatDoor
open Go.RowKit TraceP Go.Shelf

def bren : Go.Shelf.Ren := ⟨fun | 167 => 55 | n => Tryz.lays156_ren.f n, Tryz.lays156_ren.t, Tryz.lays156_ren.g⟩
theorem lays167 : Go.Proofs.Lays.n167 Tryz.prog bren := { Tryz.lays156 with
  f167 := Tryz.func55.trans (congrArg some (by kernel_rfl))
  f240 := Tryz.func111.trans (congrArg some (by kernel_rfl))
  f276 := Tryz.func141.trans (congrArg some (by kernel_rfl))
  t5 := Tryz.underlying5
  a5 := Tryz.isAgg5
  z5 := Tryz.sizeOf5
  v5 := Tryz.zeroValue5 }
theorem extra167 : Builder.Extra Tryz.prog bren := {
  sizeBuilder := by kernel_rfl
  liesBuilder := by kernel_rfl
  t5 := Tryz.underlying5
  a5 := Tryz.isAgg5
  z5 := Tryz.sizeOf5
  v5 := Tryz.zeroValue5
  infoByte := by kernel_rfl
  cellsByte := by kernel_rfl
  sizeByte := by kernel_rfl
  neB5 := by decide }
/-- A builder that holds bytes. -/
abbrev Bld (B b : Nat) (l : Txt) (w : World) : Prop := Lib.IsBuilderF 113 5 B b (Lib.byteCells l) w
theorem bcells_len (l : Txt) : (Lib.byteCells l).length = l.length := by simp [Lib.byteCells]
theorem bcells_append (a b : Txt) : Lib.byteCells (a ++ b) = Lib.byteCells a ++ Lib.byteCells b := by simp [Lib.byteCells]
theorem bld_new (w : World) : Bld w.heap.size w.heap.size [] (w.alloc (.cells #[.pointer none, .slice none 0 0] 113)) :=
  .inl ⟨Nat.le_refl _, .slice none 0 0, heap_alloc_new w _, ⟨rfl, .inl ⟨rfl, rfl⟩⟩, by simp [Value.ownBlock]⟩
theorem wbyte_calls (B b : Nat) (l : Txt) (c : UInt8) (n : Int) (hn : n = (c.toNat : Int)) (w : World) (h : Bld B b l w) (hl : l.length ≤ 100000000000000) (hB : B ≤ w.heap.size) :
    Calls Tryz.prog 55 #[.pointer (some ⟨b, 0, none⟩), .int .u8 n] w fun e w' => e = .returned .nilIface ∧ Bld B b (l ++ [c]) w' ∧ Below B w w' := by
  subst hn
  refine (Any.Builder_WriteByte_k lays167 extra167 B b (Lib.byteCells l) (c.toNat : Int) w h (by rw [bcells_len]; omega) hB).mono ?_
  rintro e w' ⟨rfl, h1, h2, _⟩
  refine ⟨rfl, .inr ?_, h2⟩
  rw [bcells_append]
  exact h1
theorem bstring_calls (B b : Nat) (l : Txt) (w : World) (h : Bld B b l w) (hB : B ≤ w.heap.size) :
    Calls Tryz.prog 56 #[.pointer (some ⟨b, 0, none⟩)] w fun e w' => e = .returned (.string (bstr l)) ∧ Below B w w' := by
  refine (Tryz.Builder_String_any_k B b l w h hB).mono ?_
  rintro e w' ⟨rfl, _, h2, _⟩
  exact ⟨rfl, h2⟩
end Go.Proofs.YtiokbebodblhaaaGreatDoor
namespace Go.Proofs.YtiokbebodblhaaaGreatDoor
open Go.RowKit TraceP

theorem bstr_list (t : List UInt8) : (bstr t).toList = t := by
  rw [ByteArray.toList_eq]; rfl
theorem bstr_beq (a b : Txt) : ((bstr a).toList == (bstr b).toList) = (a == b) := by rw [bstr_list, bstr_list]
/-- Byte k of a text, as a number; 0 behind its end. -/
def bAt (l : List UInt8) (k : Nat) : Int := if h : k < l.length then (l[k].toNat : Int) else 0
theorem get_bAt (l : List UInt8) : ∀ (n : Nat) (h : n < (bstr l).size), (((bstr l)[n]'h).toNat : Int) = bAt l n := fun n h => by
  have h' : n < l.length := h
  unfold bAt
  rw [dif_pos h']
  rfl
theorem bAt_get {l : List UInt8} {k : Nat} (h : k < l.length) : bAt l k = (l[k].toNat : Int) := dif_pos h
theorem escT_take {l : Txt} {k : Nat} (h : k < l.length) : escT (l.take (k + 1)) = escT (l.take k) ++ escC l[k] := by
  unfold escT
  rw [List.take_succ_eq_append_getElem h, List.flatMap_append]
  simp
theorem escT_len (l : Txt) : (escT l).length ≤ 3 * l.length := by
  unfold escT
  induction l with
  | nil => simp
  | cons c l ih =>
    rw [List.flatMap_cons, List.length_append, List.length_cons]
    have : (escC c).length ≤ 3 := by rcases escC_cases c with ⟨_, e⟩ | ⟨_, e⟩ <;> rw [e] <;> simp
    omega
def hexA : Txt := [48, 49, 50, 51, 52, 53, 54, 55, 56, 57, 65, 66, 67, 68, 69, 70]
theorem hexA_at : ∀ n, n < 16 → bAt hexA n = ((hexD n).toNat : Int) := by decide
set_option maxRecDepth 100000 in
set_option maxHeartbeats 800000 in
theorem spelled_calls (l : Txt) (w : World) (hl : l.length ≤ 10000000000000) : Calls Tryz.prog 114 #[.string (bstr l)] w fun e w' => e = .returned (.string (bstr (wordT l))) ∧ Below w.heap.size w w' := by
  have hb := get_bAt l
  have hs : (bstr l).size = l.length := rfl
  have hx : ∀ (n : Nat) (h : n < (⟨#[48, 49, 50, 51, 52, 53, 54, 55, 56, 57, 65, 66, 67, 68, 69, 70]⟩ : ByteArray).size), (((⟨#[48, 49, 50, 51, 52, 53, 54, 55, 56, 57, 65, 66, 67, 68, 69, 70]⟩ : ByteArray)[n]'h).toNat : Int) = bAt hexA n := get_bAt hexA
  have b0 := bld_new w
  have B1 : Below w.heap.size w (w.alloc (.cells #[.pointer none, .slice none 0 0] 113)) := (Below.refl _ _).alloc (Nat.le_refl _) _
  go_enter Tryz.func114, Tryz.ntmps114
  go_wp2_with fail
  generalize w.alloc (.cells #[.pointer none, .slice none 0 0] 113) = w1 at *
  have hw1 : w.heap.size ≤ w1.heap.size := B1.size
  refine (wbyte_calls w.heap.size w.heap.size [] 61 61 rfl w1 b0 (by simp) hw1).mono ?_
  rintro e w2 ⟨rfl, b2, B2'⟩
  have B2 := B1.trans B2'
  clear b0 B1 B2' hw1
  go_wp2_with fail
  go_loopw [9] (fun i wr => ∃ k : Nat, k ≤ l.length ∧ i = .int .i64 (k : Int) ∧ Bld w.heap.size w.heap.size (61 :: escT (l.take k)) wr ∧ Below w.heap.size w wr) (fun i _ => l.length - (intOf i).toNat)
  case atStart => exact ⟨0, by omega, rfl, b2, B2⟩
  case round =>
    clear b2 B2
    obtain ⟨k, hk, rfl, hbd, hB⟩ := hrel
    have hwr := hB.size
    have hlen : (61 :: escT (l.take k)).length ≤ 50000000000000 := by
      have := escT_len (l.take k)
      rw [List.length_cons]
      simp only [List.length_take] at this
      omega
    by_cases hlt : k < l.length
    · have hbk := bAt_get hlt
      have HT := Lib.hid (escT_take hlt)
      generalize l[k] = c at *
      have h8 := c.toNat_lt
      rcases escC_cases c with ⟨hp, he⟩ | ⟨hp, he⟩
      · have hp' := (plainC_iff c).1 hp
        obtain ⟨p1, p2, p3⟩ := hp'
        have p3' : c.toNat ≠ 37 := fun e => p3 (UInt8.toNat_inj.1 e)
        have e1 : decide (33 ≤ (c.toNat : Int)) = true := decide_eq_true (by omega)
        have e2 : decide ((c.toNat : Int) ≤ 126) = true := decide_eq_true (by omega)
        have e3 : ((c.toNat : Int) != 37) = true := bne_iff_ne.2 (by omega)
        clear p1 p2 p3 p3' hp
        go_wp2_with fail
        refine (wbyte_calls w.heap.size w.heap.size (61 :: escT (l.take k)) c _ rfl wr hbd (by omega) hwr).mono ?_
        rintro e w3 ⟨rfl, b3, B3'⟩
        have B3 := hB.trans B3'
        clear B3'
        go_wp2_with fail
        go_roundw
        case rel => exact ⟨k + 1, by omega, rfl, by rw [HT.out, he]; exact b3, B3⟩
        case measure => simp [intOf]; omega
      · have W1 := wbyte_calls w.heap.size w.heap.size (61 :: escT (l.take k)) 37 37 rfl wr hbd (by omega) hwr
        have x1 := hexA_at (c.toNat / 16) (by omega)
        have x2 := hexA_at (c.toNat % 16) (by omega)
        have np : c.toNat < 33 ∨ (33 ≤ c.toNat ∧ 126 < c.toNat) ∨ (33 ≤ c.toNat ∧ c.toNat ≤ 126 ∧ c.toNat = 37) := by
          rcases Classical.em (c.toNat < 33) with h | h
          · exact .inl h
          · rcases Classical.em (126 < c.toNat) with h2 | h2
            · exact .inr (.inl ⟨by omega, h2⟩)
            · refine .inr (.inr ⟨by omega, by omega, ?_⟩)
              rcases Classical.em (c.toNat = 37) with h3 | h3
              · exact h3
              · exfalso
                rw [(plainC_iff c).2 ⟨by omega, by omega, fun e => h3 (by rw [e]; rfl)⟩] at hp
                cases hp
        clear hp
        rcases np with hq | ⟨hq, hq2⟩ | ⟨hq, hq2, hq3⟩
        · have e1 : decide (33 ≤ (c.toNat : Int)) = false := decide_eq_false (by omega)
          clear hq
          go_wp2_with fail
          refine W1.mono ?_
          rintro e w3 ⟨rfl, b3, B3'⟩
          have B3 := hB.trans B3'
          clear B3' W1
          go_wp2_with fail
          have hw3 := B3.size
          refine (wbyte_calls w.heap.size w.heap.size _ (hexD (c.toNat / 16)) _ rfl w3 b3 (by rw [List.length_append]; simp only [List.length_cons, List.length_nil] at hlen ⊢; omega) hw3).mono ?_
          clear b3
          rintro e w4 ⟨rfl, b4, B4'⟩
          have B4 := B3.trans B4'
          clear B4' B3 hw3
          have hw4 := B4.size
          go_wp2_with fail
          refine (wbyte_calls w.heap.size w.heap.size _ (hexD (c.toNat % 16)) _ rfl w4 b4 (by rw [List.length_append, List.length_append]; simp only [List.length_cons, List.length_nil] at hlen ⊢; omega) hw4).mono ?_
          clear b4
          rintro e w5 ⟨rfl, b5, B5'⟩
          have B5 := B4.trans B5'
          clear B5' B4 hw4
          go_wp2_with fail
          go_roundw
          case rel => exact ⟨k + 1, by omega, rfl, by rw [HT.out, he]; simpa using b5, B5⟩
          case measure => simp [intOf]; omega
        · have e1 : decide (33 ≤ (c.toNat : Int)) = true := decide_eq_true (by omega)
          have e2 : decide ((c.toNat : Int) ≤ 126) = false := decide_eq_false (by omega)
          clear hq hq2
          go_wp2_with fail
          refine W1.mono ?_
          rintro e w3 ⟨rfl, b3, B3'⟩
          have B3 := hB.trans B3'
          clear B3' W1
          go_wp2_with fail
          have hw3 := B3.size
          refine (wbyte_calls w.heap.size w.heap.size _ (hexD (c.toNat / 16)) _ rfl w3 b3 (by rw [List.length_append]; simp only [List.length_cons, List.length_nil] at hlen ⊢; omega) hw3).mono ?_
          clear b3
          rintro e w4 ⟨rfl, b4, B4'⟩
          have B4 := B3.trans B4'
          clear B4' B3 hw3
          have hw4 := B4.size
          go_wp2_with fail
          refine (wbyte_calls w.heap.size w.heap.size _ (hexD (c.toNat % 16)) _ rfl w4 b4 (by rw [List.length_append, List.length_append]; simp only [List.length_cons, List.length_nil] at hlen ⊢; omega) hw4).mono ?_
          clear b4
          rintro e w5 ⟨rfl, b5, B5'⟩
          have B5 := B4.trans B5'
          clear B5' B4 hw4
          go_wp2_with fail
          go_roundw
          case rel => exact ⟨k + 1, by omega, rfl, by rw [HT.out, he]; simpa using b5, B5⟩
          case measure => simp [intOf]; omega
        · have e1 : decide (33 ≤ (c.toNat : Int)) = true := decide_eq_true (by omega)
          have e2 : decide ((c.toNat : Int) ≤ 126) = true := decide_eq_true (by omega)
          have e3 : ((c.toNat : Int) != 37) = false := by rw [hq3]; rfl
          clear hq hq2 hq3
          go_wp2_with fail
          refine W1.mono ?_
          rintro e w3 ⟨rfl, b3, B3'⟩
          have B3 := hB.trans B3'
          clear B3' W1
          go_wp2_with fail
          have hw3 := B3.size
          refine (wbyte_calls w.heap.size w.heap.size _ (hexD (c.toNat / 16)) _ rfl w3 b3 (by rw [List.length_append]; simp only [List.length_cons, List.length_nil] at hlen ⊢; omega) hw3).mono ?_
          clear b3
          rintro e w4 ⟨rfl, b4, B4'⟩
          have B4 := B3.trans B4'
          clear B4' B3 hw3
          have hw4 := B4.size
          go_wp2_with fail
          refine (wbyte_calls w.heap.size w.heap.size _ (hexD (c.toNat % 16)) _ rfl w4 b4 (by rw [List.length_append, List.length_append]; simp only [List.length_cons, List.length_nil] at hlen ⊢; omega) hw4).mono ?_
          clear b4
          rintro e w5 ⟨rfl, b5, B5'⟩
          have B5 := B4.trans B5'
          clear B5' B4 hw4
          go_wp2_with fail
          go_roundw
          case rel => exact ⟨k + 1, by omega, rfl, by rw [HT.out, he]; simpa using b5, B5⟩
          case measure => simp [intOf]; omega
    · obtain rfl : k = l.length := by omega
      go_wp2_with fail
      refine (bstring_calls w.heap.size w.heap.size _ wr hbd hwr).mono ?_
      rintro e w3 ⟨rfl, B3⟩
      go_wp2_with fail
      go_ret
      exact ⟨rfl, hB.trans B3⟩
end Go.Proofs.YtiokbebodblhaaaGreatDoor
namespace Go.Proofs.YtiokbebodblhaaaGreatDoor
open Go.RowKit TraceP

/-- A writer's words. -/
def WrOK (w : World) (base g : Nat) (ws : List Txt) : Prop := base ≤ g ∧ ∃ v, Blk w g 129 #[v] ∧ w.ownsRow base 9 1 v ws.length (fl txC ws) ∧ v.ownBlock ≠ some g
/-- A block that is not the writer's. -/
def FrW (w : World) (g k : Nat) : Prop := k < w.heap.size ∧ k ≠ g ∧ ∀ v, w.cell? ⟨g, 0, none⟩ = some v → v.ownBlock ≠ some k
/-- Words were put behind a writer's; what is not the writer's stays. -/
structure Wrote (base g : Nat) (ws W : List Txt) (w w' : World) : Prop where
  ok : WrOK w' base g (ws ++ W)
  fr : ∀ k, FrW w g k → w'.heap[k]? = w.heap[k]? ∧ FrW w' g k
  below : Below base w w'
theorem Wrote.trans {base g : Nat} {ws W V : List Txt} {a b c : World} (h : Wrote base g ws W a b) (k : Wrote base g (ws ++ W) V b c) : Wrote base g ws (W ++ V) a c := by
  refine ⟨?_, fun i hi => ?_, h.below.trans k.below⟩
  · rw [← List.append_assoc]; exact k.ok
  · obtain ⟨e1, f1⟩ := h.fr i hi
    obtain ⟨e2, f2⟩ := k.fr i f1
    exact ⟨e2.trans e1, f2⟩
theorem WrOK.lt {w : World} {base g : Nat} {ws : List Txt} (h : WrOK w base g ws) : g < w.heap.size := by
  obtain ⟨_, v, hb, _⟩ := h
  exact hb.lt
theorem WrOK.size {w : World} {base g : Nat} {ws : List Txt} (h : WrOK w base g ws) : base ≤ w.heap.size := by
  have := h.lt
  have := h.1
  omega
theorem Wrote.below_ {base g : Nat} {ws : List Txt} {w w' : World} (h : WrOK w base g ws) (b : Below w.heap.size w w') : Wrote base g ws [] w w' := by
  have hs := h.size
  have hl := h.lt
  obtain ⟨h0, v, h1, h2, h3⟩ := h
  refine ⟨⟨h0, v, h1.below b h1.lt, by rw [List.append_nil]; exact own_below h2 b (fun k hk => (h2.lt k hk).2), h3⟩, fun k hk => ⟨b.block k hk.1, Nat.lt_of_lt_of_le hk.1 b.size, hk.2.1, fun u hu => hk.2.2 u ?_⟩, b.mono hs⟩
  rw [← hu]
  exact (b.cell (p := ⟨g, 0, none⟩) hl).symm
theorem Wrote.call {base g : Nat} {ws W : List Txt} {a b c : World} (h : Wrote base g ws W a b) (k : Below b.heap.size b c) : Wrote base g ws W a c := by
  have := h.trans (Wrote.below_ h.ok k)
  rwa [List.append_nil] at this
theorem FrW.new {w : World} {base g : Nat} {ws : List Txt} (h : WrOK w base g ws) (o : Obj) : FrW (w.alloc o) g w.heap.size := by
  have hl := h.lt
  obtain ⟨h0, v, h1, h2, h3⟩ := h
  refine ⟨by simp, by omega, fun u hu e => ?_⟩
  have hc := (h1.alloc o).at_ (i := 0) (v := v) rfl
  rw [hc] at hu
  injection hu with hu
  subst hu
  have := (h2.lt _ e).2
  omega
theorem Blk.wr {w w' : World} {base g k : Nat} {ws W : List Txt} {t : TypeId} {cs : Array Value} (h : Blk w k t cs) (x : Wrote base g ws W w w') (f : FrW w g k) : Blk w' k t cs := (x.fr k f).1.trans h
theorem Wrote.push {w w3 : World} {base g : Nat} {ws : List Txt} {t : Txt} {v v' : Value} {o : Obj} (h0 : base ≤ g) (h1 : Blk w g 129 #[v]) (h2 : w.ownsRow base 9 1 v ws.length (fl txC ws)) (h3 : v.ownBlock ≠ some g)
    (hown : w3.ownsRow base 9 1 v' (ws.length + 1) (fl txC ws ++ [.string (bstr t)])) (gr : (w.alloc o).grownBy w3 v.ownBlock) (hv : v'.ownBlock = v.ownBlock ∨ v'.ownBlock = some (w.heap.size + 1)) :
    Wrote base g ws [t] w (w3.setCell ⟨g, 0, none⟩ v') := by
  have hg := h1.lt
  have hsz : (w.alloc o).heap.size = w.heap.size + 1 := by simp
  have hg3 : Blk w3 g 129 #[v] := by
    have : w3.heap[g]? = (w.alloc o).heap[g]? := gr.block g (by omega) (fun e => h3 e.symm)
    exact this.trans (h1.alloc o)
  have hb4 : Blk (w3.setCell ⟨g, 0, none⟩ v') g 129 #[v'] := hg3.set_ 0 v'
  have hvg : v'.ownBlock ≠ some g := by
    rcases hv with e | e <;> rw [e]
    · exact h3
    · intro e; injection e with e; omega
  have K : Kept (fun k => k = g ∨ v.ownBlock = some k) w (w3.setCell ⟨g, 0, none⟩ v') :=
    (((Kept.refl (fun k => k = g ∨ v.ownBlock = some k) w).alloc o).grown gr (fun k hk => .inl (.inr hk))).setCell (p := ⟨g, 0, none⟩) (.inl (.inl rfl)) v'
  refine ⟨⟨h0, v', hb4, ?_, hvg⟩, fun k hk => ?_, K.below (fun k _ hk => ?_) (by omega)⟩
  · rw [List.length_append, fl_append, fl_one]
    exact own_frame hown fun k hk => heap_setCell_other _ _ _ _ (fun e => hvg (by rw [hk, e]))
  · obtain ⟨f1, f2, f3⟩ := hk
    have f4 := f3 v (h1.at_ rfl)
    refine ⟨K.block k f1 (fun e => e.elim f2 f4), Nat.lt_of_lt_of_le f1 K.size, f2, fun u hu => ?_⟩
    rw [hb4.at_ (i := 0) (v := v') rfl] at hu
    injection hu with hu
    subst hu
    rcases hv with e | e <;> rw [e]
    · exact f4
    · intro e; injection e with e; omega
  · rcases hk with rfl | hk
    · exact h0
    · exact (h2.lt k hk).1
/-- A word that is not too long; words that are not too many. -/
def Fits (W : List Txt) : Prop := W.length ≤ 10000000 ∧ ∀ x ∈ W, x.length ≤ 1000000
theorem Fits.left {a b : List Txt} (h : Fits (a ++ b)) : Fits a := ⟨by have := h.1; simp at this; omega, fun x hx => h.2 x (by simp [hx])⟩
theorem Fits.right {a b : List Txt} (h : Fits (a ++ b)) : Fits b := ⟨by have := h.1; simp at this; omega, fun x hx => h.2 x (by simp [hx])⟩
theorem Fits.tail {a : Txt} {b : List Txt} (h : Fits (a :: b)) : Fits b := ⟨by have := h.1; simp at this; omega, fun x hx => h.2 x (by simp [hx])⟩
theorem Fits.head {a : Txt} {b : List Txt} (h : Fits (a :: b)) : a.length ≤ 1000000 := h.2 a (by simp)
theorem info_string : (Tryz.prog.info? 9).map (fun i => (i.zero, i.size, i.bytes)) = some (some (.string ⟨#[]⟩), 1, 16) := by kernel_rfl
theorem el_string : El Tryz.prog 30 9 (.string ⟨#[]⟩) 1 16 := ⟨info_parts info_string, Tryz.underlying30, rfl, by decide⟩
theorem word_calls (w : World) (base g : Nat) (ws : List Txt) (t : Txt) (H : WrOK w base g ws) (hn : ws.length ≤ 10000000) :
    Calls Tryz.prog 64 #[.pointer (some ⟨g, 0, none⟩), .string (bstr t)] w fun e w' => e = .returned (.tuple #[]) ∧ Wrote base g ws [t] w w' := by
  have hs := H.size
  obtain ⟨h0, v, h1, h2, h3⟩ := H
  have c0 := h1.at_ (i := 0) (v := v) rfl
  go_enter Tryz.func64, Tryz.ntmps64
  go_wp2_with ((with_reducible show wpList _ _ _ (⟨some 11, _, _, _, _, _⟩ :: _) _ _); refine wpList_append_rv el_string rfl (.tmp 8) (.tmp 10) rfl base v ws.length (fl txC ws) rfl (own_below h2 ((Below.refl _ _).alloc (Nat.le_refl _) _) (fun k hk => (h2.lt k hk).2)) (some ⟨w.heap.size, 0, none⟩) 1 1 [.string (bstr t)] rfl rfl (RV.new w [.string (bstr t)] 9 (0, 0)) ?f1 ?f2 ?f3 ?f4 ?_)
  case f1 => intro u hu; simp at hu; subst hu; rfl
  case f2 => unfold maxLen; omega
  case f3 => omega
  case f4 => simp; omega
  intro v' w3 hown gr hv
  have P := Wrote.push (t := t) h0 h1 h2 h3 hown gr hv
  have hsz : (w.alloc (.cells #[.string (bstr t)] 9)).heap.size = w.heap.size + 1 := by simp
  have hg3 : Blk w3 g 129 #[v] := by
    have hg := h1.lt
    exact (gr.block g (by omega) (fun e => h3 e.symm)).trans (h1.alloc _)
  have d0 := hg3.at_ (i := 0) (v := v) rfl
  have d1 := hg3.frozen 0
  obtain ⟨A, c, rfl, _, _⟩ := own_form hown
  go_wp2
  go_end0
  exact ⟨rfl, P⟩
theorem esc_ge (l : Txt) : l.length ≤ (escT l).length := by
  unfold escT
  induction l with
  | nil => simp
  | cons c l ih =>
    rw [List.flatMap_cons, List.length_append, List.length_cons]
    have : 1 ≤ (escC c).length := by rcases escC_cases c with ⟨_, e⟩ | ⟨_, e⟩ <;> rw [e] <;> simp
    omega
theorem word_ge (l : Txt) : l.length + 1 ≤ (wordT l).length := by
  have := esc_ge l
  show _ ≤ (escT l).length + 1
  omega
theorem number_calls (w : World) (base g : Nat) (ws : List Txt) (n : Int) (hi : I64 n) (hS : Std w) (H : WrOK w base g ws) (hn : ws.length ≤ 10000000) :
    Calls Tryz.prog 63 #[.pointer (some ⟨g, 0, none⟩), .int .i64 n] w fun e w' => e = .returned (.tuple #[]) ∧ Wrote base g ws [numT n] w w' := by
  go_enter Tryz.func63, Tryz.ntmps63
  go_wp2_with fail
  refine (fmt_calls n hi.1 hi.2 w hS).mono ?_
  rintro e w1 ⟨rfl, b1⟩
  have P1 := Wrote.below_ H b1
  go_wp2_with fail
  refine (word_calls w1 base g (ws ++ []) (numT n) P1.ok (by simpa using hn)).mono ?_
  rintro e w2 ⟨rfl, P2⟩
  go_wp2_with fail
  go_end0
  exact ⟨rfl, P1.trans P2⟩
theorem text_calls (w : World) (base g : Nat) (ws : List Txt) (t : Txt) (ht : (wordT t).length ≤ 1000000) (H : WrOK w base g ws) (hn : ws.length ≤ 10000000) :
    Calls Tryz.prog 65 #[.pointer (some ⟨g, 0, none⟩), .string (bstr t)] w fun e w' => e = .returned (.tuple #[]) ∧ Wrote base g ws [wordT t] w w' := by
  go_enter Tryz.func65, Tryz.ntmps65
  go_wp2_with fail
  refine (spelled_calls t w (by have := word_ge t; omega)).mono ?_
  rintro e w1 ⟨rfl, b1⟩
  have P1 := Wrote.below_ H b1
  go_wp2_with fail
  refine (word_calls w1 base g (ws ++ []) (wordT t) P1.ok (by simpa using hn)).mono ?_
  rintro e w2 ⟨rfl, P2⟩
  go_wp2_with fail
  go_end0
  exact ⟨rfl, P1.trans P2⟩
theorem truth_calls (w : World) (base g : Nat) (ws : List Txt) (b : Bool) (H : WrOK w base g ws) (hn : ws.length ≤ 10000000) :
    Calls Tryz.prog 67 #[.pointer (some ⟨g, 0, none⟩), .bool b] w fun e w' => e = .returned (.tuple #[]) ∧ Wrote base g ws [yesT b] w w' := by
  cases b
  · go_enter Tryz.func67, Tryz.ntmps67
    go_wp2_with fail
    refine (word_calls w base g ws [110, 111] H hn).mono ?_
    rintro e w2 ⟨rfl, P2⟩
    go_wp2_with fail
    go_end0
    exact ⟨rfl, P2⟩
  · go_enter Tryz.func67, Tryz.ntmps67
    go_wp2_with fail
    refine (word_calls w base g ws [121, 101, 115] H hn).mono ?_
    rintro e w2 ⟨rfl, P2⟩
    go_wp2_with fail
    go_end0
    exact ⟨rfl, P2⟩
end Go.Proofs.YtiokbebodblhaaaGreatDoor
namespace Go.Proofs.YtiokbebodblhaaaGreatDoor
open Go.RowKit TraceP

theorem Wrote.from_ {base g : Nat} {ws W : List Txt} {w w1 w' : World} (h : WrOK w base g ws) (b : Below w.heap.size w w1) (k : Wrote base g ws W w1 w') : Wrote base g ws W w w' := by
  have e : ws ++ [] = ws := List.append_nil ws
  exact (Wrote.below_ h b).trans (e.symm ▸ k)
theorem WrOK.below {base g : Nat} {ws : List Txt} {w w1 : World} (h : WrOK w base g ws) (b : Below w.heap.size w w1) : WrOK w1 base g ws := by
  have := (Wrote.below_ h b).ok
  rwa [List.append_nil] at this
theorem below_new (w : World) (o : Obj) : Below w.heap.size w (w.alloc o) := (Below.refl _ _).alloc (Nat.le_refl _) o
theorem wspan_calls {w0 : World} (hS : Std w0) (w : World) (B : Below w0.heap.size w0 w) (g : Nat) (ws : List Txt) (s : Spn) (hi : SpnI s) (H : WrOK w w0.heap.size g ws) (hn : ws.length ≤ 9999999) :
    Calls Tryz.prog 117 #[.pointer (some ⟨g, 0, none⟩), .agg #[.int .i64 s.frm, .int .i64 s.to]] w fun e w' => e = .returned (.tuple #[]) ∧ Wrote w0.heap.size g ws (spnW s) w w' := by
  have F := FrW.new H (.cells #[.int .i64 s.frm, .int .i64 s.to] 38)
  have b1 := Blk.new w 38 #[.int .i64 s.frm, .int .i64 s.to]
  have B1 := below_new w (.cells #[.int .i64 s.frm, .int .i64 s.to] 38)
  go_enter Tryz.func117, Tryz.ntmps117
  go_wp2_with fail
  generalize w.alloc (.cells #[.int .i64 s.frm, .int .i64 s.to] 38) = w1 at *
  have C1 := B.trans (B1.mono B.size)
  refine (number_calls w1 _ g ws s.frm hi.1 (hS.below C1) (H.below B1) (by omega)).mono ?_
  rintro e w2 ⟨rfl, P⟩
  have b2 := b1.wr P F
  have c2 := b2.at_ (i := 1) (v := .int .i64 s.to) rfl
  go_wp2_with fail
  refine (number_calls w2 _ g _ s.to hi.2 (hS.below (C1.trans P.below)) P.ok (by simp; omega)).mono ?_
  rintro e w3 ⟨rfl, P2⟩
  go_wp2_with fail
  go_end0
  exact ⟨rfl, Wrote.from_ H B1 (P.trans P2)⟩
attribute [local go_sem] bstr_add
theorem bstr_w (a : List UInt8) (l : Array UInt8) : (⟨l⟩ : ByteArray) ++ bstr a = bstr (l.toList ++ a) := bstr_add l.toList a
theorem wtag_calls (w : World) (base g : Nat) (ws : List Txt) (t : Tag) (ht : (tagT t).length ≤ 1000000) (H : WrOK w base g ws) (hn : ws.length ≤ 10000000) :
    Calls Tryz.prog 115 #[.pointer (some ⟨g, 0, none⟩), .agg #[.string (bstr t.text), .bool t.weak]] w fun e w' => e = .returned (.tuple #[]) ∧ Wrote base g ws [tagT t] w w' := by
  obtain ⟨s, wk⟩ := t
  have B1 := below_new w (.cells #[.string (bstr s), .bool wk] 25)
  have hsp := bstr_w (wordT s)
  cases wk
  · by_cases hs : s = []
    · subst hs
      have hne : ((bstr ([] : Txt)).toList = []) = True := by rw [bstr_list]; exact eq_true rfl
      go_enter Tryz.func115, Tryz.ntmps115
      go_wp2_with fail
      refine (word_calls _ base g ws [45] (H.below B1) hn).mono ?_
      rintro e w3 ⟨rfl, P2⟩
      go_wp2_with fail
      go_end0
      exact ⟨rfl, Wrote.from_ H B1 P2⟩
    · have hT : Hid (tagT ⟨s, false⟩ = 115 :: wordT s) := by show _ = _; unfold tagT; simp [hs]
      rw [hT.out] at ht
      have hz : ¬ 9223372036854775807 < 1 + (bstr (wordT s)).size := by rw [bstr_size]; simp at ht; omega
      have hne : ((bstr s).toList = []) = False := by rw [bstr_list]; exact eq_false hs
      have hw : (wordT s).length ≤ 1000000 := by simp at ht; omega
      have hsl : s.length ≤ 10000000000000 := by have := word_ge s; omega
      clear hs ht
      go_enter Tryz.func115, Tryz.ntmps115
      go_wp2_with fail
      generalize w.alloc (.cells #[.string (bstr s), .bool false] 25) = w1 at *
      refine (spelled_calls s w1 hsl).mono ?_
      rintro e w2 ⟨rfl, b2⟩
      have B2 := B1.trans (b2.mono B1.size)
      go_wp2_with fail
      refine (word_calls _ base g ws (115 :: wordT s) (H.below B2) hn).mono ?_
      rintro e w3 ⟨rfl, P2⟩
      go_wp2_with fail
      go_end0
      exact ⟨rfl, by rw [hT.out]; exact Wrote.from_ H B2 P2⟩
  · have hT : Hid (tagT ⟨s, true⟩ = 119 :: wordT s) := by show _ = _; unfold tagT; simp
    rw [hT.out] at ht
    have hz : ¬ 9223372036854775807 < 1 + (bstr (wordT s)).size := by rw [bstr_size]; simp at ht; omega
    have hw : (wordT s).length ≤ 1000000 := by simp at ht; omega
    have hsl : s.length ≤ 10000000000000 := by have := word_ge s; omega
    clear ht
    go_enter Tryz.func115, Tryz.ntmps115
    go_wp2_with fail
    generalize w.alloc (.cells #[.string (bstr s), .bool true] 25) = w1 at *
    refine (spelled_calls s w1 hsl).mono ?_
    rintro e w2 ⟨rfl, b2⟩
    have B2 := B1.trans (b2.mono B1.size)
    go_wp2_with fail
    refine (word_calls _ base g ws (119 :: wordT s) (H.below B2) hn).mono ?_
    rintro e w3 ⟨rfl, P2⟩
    go_wp2_with fail
    go_end0
    exact ⟨rfl, by rw [hT.out]; exact Wrote.from_ H B2 P2⟩
end Go.Proofs.YtiokbebodblhaaaGreatDoor
namespace Go.Proofs.YtiokbebodblhaaaGreatDoor
open Go.RowKit TraceP

theorem fl_elem {α : Type} {c : α → List Value} {n : Nat} (hc : ∀ a, (c a).length = n) (hn : 0 < n) {w : World} {A : Option Addr} {l : List α} (h : RV w A (fl c l)) {k : Nat} (hk : k < l.length) :
    ∃ b off, A = some ⟨b, off, none⟩ ∧ b < w.heap.size ∧ ∀ j v, (c l[k])[j]? = some v → w.cell? ⟨b, off + (k * n + j), none⟩ = some v := by
  obtain ⟨b, off, e, hb, h2⟩ := h (by
    intro e
    have := congrArg List.length e
    rw [fl_len hc] at this
    have h0 : l.length * n = 0 := by simpa using this
    rcases Nat.mul_eq_zero.1 h0 with h1 | h1 <;> omega)
  refine ⟨b, off, e, hb, fun j v hj => h2 _ _ ?_⟩
  rw [fl_at hc hk (by rw [← hc l[k]]; exact (List.getElem?_eq_some_iff.1 hj).1)]
  exact hj
theorem fl_elem1 {α : Type} {c : α → List Value} (hc : ∀ a, (c a).length = 1) {w : World} {A : Option Addr} {l : List α} (h : RV w A (fl c l)) {k : Nat} (hk : k < l.length) :
    ∃ b off, A = some ⟨b, off, none⟩ ∧ b < w.heap.size ∧ (∀ v, (c l[k])[0]? = some v → w.cell? ⟨b, off + k, none⟩ = some v) := by
  obtain ⟨b, off, e, hb, h2⟩ := fl_elem hc (by omega) h hk
  exact ⟨b, off, e, hb, fun v hv => by have := h2 0 v hv; rwa [Nat.mul_one, Nat.add_zero] at this⟩
theorem fl_elem2 {α : Type} {c : α → List Value} (hc : ∀ a, (c a).length = 2) {w : World} {A : Option Addr} {l : List α} (h : RV w A (fl c l)) {k : Nat} (hk : k < l.length) :
    ∃ b off, A = some ⟨b, off, none⟩ ∧ b < w.heap.size ∧ (∀ v, (c l[k])[0]? = some v → w.cell? ⟨b, off + k * 2, none⟩ = some v) ∧ (∀ v, (c l[k])[1]? = some v → w.cell? ⟨b, off + k * 2 + 1, none⟩ = some v) := by
  obtain ⟨b, off, e, hb, h2⟩ := fl_elem hc (by omega) h hk
  exact ⟨b, off, e, hb, fun v hv => h2 0 v hv, fun v hv => h2 1 v hv⟩
theorem fl_elem3 {α : Type} {c : α → List Value} (hc : ∀ a, (c a).length = 3) {w : World} {A : Option Addr} {l : List α} (h : RV w A (fl c l)) {k : Nat} (hk : k < l.length) :
    ∃ b off, A = some ⟨b, off, none⟩ ∧ b < w.heap.size ∧ (∀ v, (c l[k])[0]? = some v → w.cell? ⟨b, off + k * 3, none⟩ = some v) ∧ (∀ v, (c l[k])[1]? = some v → w.cell? ⟨b, off + k * 3 + 1, none⟩ = some v) ∧ (∀ v, (c l[k])[2]? = some v → w.cell? ⟨b, off + k * 3 + 2, none⟩ = some v) := by
  obtain ⟨b, off, e, hb, h2⟩ := fl_elem hc (by omega) h hk
  exact ⟨b, off, e, hb, fun v hv => h2 0 v hv, fun v hv => h2 1 v hv, fun v hv => h2 2 v hv⟩
theorem map_take_succ {α β : Type} (f : α → β) {l : List α} {k : Nat} (h : k < l.length) : (l.take (k + 1)).map f = (l.take k).map f ++ [f l[k]] := by
  rw [List.take_succ_eq_append_getElem h, List.map_append]
  rfl
theorem flat_take_succ {α β : Type} (f : α → List β) {l : List α} {k : Nat} (h : k < l.length) : (l.take (k + 1)).flatMap f = (l.take k).flatMap f ++ f l[k] := by
  rw [List.take_succ_eq_append_getElem h, List.flatMap_append]
  simp
theorem Fits.mem {W : List Txt} (h : Fits W) {x : Txt} (hx : x ∈ W) : x.length ≤ 1000000 := h.2 x hx
set_option maxHeartbeats 800000 in
theorem wtags_calls {w0 : World} (hS : Std w0) (w : World) (B : Below w0.heap.size w0 w) (g : Nat) (ws : List Txt) (A : Option Addr) (cap : Nat) (l : List Tag) (hr : RV w0 A (fl tgC l)) (H : WrOK w w0.heap.size g ws) (hF : Fits (tagsW l)) (hn : ws.length + (tagsW l).length ≤ 10000000) :
    Calls Tryz.prog 116 #[.pointer (some ⟨g, 0, none⟩), .slice A l.length cap] w fun e w' => e = .returned (.tuple #[]) ∧ Wrote w0.heap.size g ws (tagsW l) w w' := by
  have hl : (tagsW l).length = l.length + 1 := by simp [tagsW]
  rw [hl] at hn
  go_enter Tryz.func116, Tryz.ntmps116
  go_wp2_with fail
  refine (number_calls w _ g ws l.length ⟨by omega, by omega⟩ (hS.below B) H (by omega)).mono ?_
  rintro e w2 ⟨rfl, P0⟩
  go_wp2_with fail
  go_loopw [5, 12] (fun _ i wr => ∃ k : Nat, k ≤ l.length ∧ i = .int .i64 (k : Int) ∧ Wrote w0.heap.size g ws (numT l.length :: (l.take k).map tagT) w wr) (fun _ i _ => l.length - (intOf i).toNat)
  case atStart => exact ⟨0, by omega, rfl, P0⟩
  case round =>
    clear P0
    obtain ⟨k, hk, rfl, P⟩ := hrel
    have Br := B.trans P.below
    have hlen : (ws ++ (numT l.length :: (l.take k).map tagT)).length ≤ 10000000 := by simp; omega
    by_cases hlt : k < l.length
    · have dec : decide ((k : Int) < (l.length : Int)) = true := decide_eq_true (by omega)
      have dec' : decide (k < l.length) = true := decide_eq_true hlt
      obtain ⟨b, off, rfl, hbs, hc, hc1⟩ := fl_elem2 tgC_len (hr.below Br) hlt
      have HT := Lib.hid (map_take_succ tagT hlt)
      have ht := hF.mem (x := tagT l[k]) (List.mem_cons_of_mem _ (List.mem_map_of_mem (List.getElem_mem hlt)))
      generalize l[k] = t at *
      have x0 := hc (.string (bstr t.text)) rfl
      have x1 := hc1 (.bool t.weak) rfl
      clear hc hc1
      have B1 := below_new wr (.cells #[.string (bstr t.text), .bool t.weak] 25)
      go_wp2_with fail
      refine (wtag_calls _ _ g _ t ht (P.call B1).ok hlen).mono ?_
      rintro e w3 ⟨rfl, P3⟩
      have P4 := (P.call B1).trans P3
      go_wp2_with fail
      go_roundw
      case rel => exact ⟨k + 1, by omega, by go_num, by rw [HT.out]; exact P4⟩
      case measure => simp [intOf]; omega
    · obtain rfl : k = l.length := by omega
      have dec : decide ((l.length : Int) < (l.length : Int)) = false := decide_eq_false (by omega)
      rw [List.take_length] at P
      go_wp2_with fail
      go_end0
      exact ⟨rfl, P⟩
set_option maxHeartbeats 800000 in
theorem wtexts_calls {w0 : World} (hS : Std w0) (w : World) (B : Below w0.heap.size w0 w) (g : Nat) (ws : List Txt) (A : Option Addr) (cap : Nat) (l : List Txt) (hr : RV w0 A (fl txC l)) (H : WrOK w w0.heap.size g ws) (hF : Fits (textsW l)) (hn : ws.length + (textsW l).length ≤ 10000000) :
    Calls Tryz.prog 68 #[.pointer (some ⟨g, 0, none⟩), .slice A l.length cap] w fun e w' => e = .returned (.tuple #[]) ∧ Wrote w0.heap.size g ws (textsW l) w w' := by
  have hl : (textsW l).length = l.length + 1 := by simp [textsW]
  rw [hl] at hn
  go_enter Tryz.func68, Tryz.ntmps68
  go_wp2_with fail
  refine (number_calls w _ g ws l.length ⟨by omega, by omega⟩ (hS.below B) H (by omega)).mono ?_
  rintro e w2 ⟨rfl, P0⟩
  go_wp2_with fail
  go_loopw [5, 12] (fun _ i wr => ∃ k : Nat, k ≤ l.length ∧ i = .int .i64 (k : Int) ∧ Wrote w0.heap.size g ws (numT l.length :: (l.take k).map wordT) w wr) (fun _ i _ => l.length - (intOf i).toNat)
  case atStart => exact ⟨0, by omega, rfl, P0⟩
  case round =>
    clear P0
    obtain ⟨k, hk, rfl, P⟩ := hrel
    have Br := B.trans P.below
    have hlen : (ws ++ (numT l.length :: (l.take k).map wordT)).length ≤ 10000000 := by simp; omega
    by_cases hlt : k < l.length
    · have dec : decide ((k : Int) < (l.length : Int)) = true := decide_eq_true (by omega)
      have dec' : decide (k < l.length) = true := decide_eq_true hlt
      obtain ⟨b, off, rfl, hbs, hc⟩ := fl_elem1 txC_len (hr.below Br) hlt
      have HT := Lib.hid (map_take_succ wordT hlt)
      have ht := hF.mem (x := wordT l[k]) (List.mem_cons_of_mem _ (List.mem_map_of_mem (List.getElem_mem hlt)))
      generalize l[k] = t at *
      have x0 := hc (.string (bstr t)) rfl
      clear hc
      go_wp2_with fail
      refine (text_calls _ _ g _ t ht P.ok hlen).mono ?_
      rintro e w3 ⟨rfl, P3⟩
      have P4 := P.trans P3
      go_wp2_with fail
      go_roundw
      case rel => exact ⟨k + 1, by omega, by go_num, by rw [HT.out]; exact P4⟩
      case measure => simp [intOf]; omega
    · obtain rfl : k = l.length := by omega
      have dec : decide ((l.length : Int) < (l.length : Int)) = false := decide_eq_false (by omega)
      rw [List.take_length] at P
      go_wp2_with fail
      go_end0
      exact ⟨rfl, P⟩
end Go.Proofs.YtiokbebodblhaaaGreatDoor
