/-
  Asks and their ends, in plain Lean: the program's book of who waits, and the document's search ahead; both tell the same.
-/
import Derived.Test.YtiokbebodblhaaaGreatDoorTPlain
namespace Go.Proofs.YtiokbebodblhaaaGreatDoor.TraceP
open Go

/-- Does an event end what a node and a client have? -/
def endsB (e : Evt) (nd wh : Int) : Bool := decide (e.node = nd) && (decide (e.kind = 16) || (decide (e.who = wh) && (decide (e.kind = 6) || decide (e.kind = 7) || decide (e.kind = 10))))
def findEnd (nd wh : Int) : Nat → List Evt → Int
  | _, [] => -1
  | k, e :: r => if endsB e nd wh then if e.kind = 10 then (k : Int) else -1 else findEnd nd wh (k + 1) r
def ansR : Nat → List Evt → List (Int × Int)
  | _, [] => []
  | i, e :: r => if e.kind = 6 then ((i : Int), findEnd e.node e.who (i + 1) r) :: ansR (i + 1) r else ansR (i + 1) r
/- ### The program's -/
abbrev Book := Int → Int → Option Nat
def setB (f : Book) (nd wh : Int) (v : Option Nat) : Book := fun a b => if a = nd ∧ b = wh then v else f a b
def dropB (f : Book) (nd : Int) : Book := fun a b => if a = nd then none else f a b
def setEnd (out : List (Int × Int)) (k : Nat) (i : Int) : List (Int × Int) := out.set k ((out.getD k (0, 0)).1, i)
def outS (out : List (Int × Int)) (ask : Book) (i : Nat) (e : Evt) : List (Int × Int) :=
  if e.kind = 6 then out ++ [((i : Int), -1)] else if e.kind = 10 then match ask e.node e.who with
    | some k => setEnd out k i
    | none => out
  else out
def askS (out : List (Int × Int)) (ask : Book) (e : Evt) : Book :=
  if e.kind = 6 then setB ask e.node e.who (some out.length) else if e.kind = 10 ∨ e.kind = 7 then setB ask e.node e.who none else if e.kind = 16 then dropB ask e.node else ask
def ansP (out : List (Int × Int)) (ask : Book) : Nat → List Evt → List (Int × Int)
  | _, [] => out
  | i, e :: r => ansP (outS out ask i e) (askS out ask e) (i + 1) r
/- ### Both are one -/
structure Ent where
  at_ : Int
  nd : Int
  wh : Int
  end_ : Int
  op : Bool
def Ent.pair (x : Ent) : Int × Int := (x.at_, x.end_)
def Ent.step (i : Nat) (e : Evt) (x : Ent) : Ent := if x.op && endsB e x.nd x.wh then { x with op := false, end_ := if e.kind = 10 then (i : Int) else -1 } else x
def Ent.fin (i : Nat) (r : List Evt) (x : Ent) : Int × Int := if x.op then (x.at_, findEnd x.nd x.wh i r) else x.pair
def stepE (i : Nat) (e : Evt) (E : List Ent) : List Ent := E.map (Ent.step i e) ++ (if e.kind = 6 then [⟨(i : Int), e.node, e.who, -1, true⟩] else [])
theorem fin_step (i : Nat) (e : Evt) (r : List Evt) (x : Ent) : (x.step i e).fin (i + 1) r = x.fin i (e :: r) := by
  obtain ⟨a, nd, wh, en, op⟩ := x
  unfold Ent.step Ent.fin
  cases op
  · simp
  · simp only [Bool.true_and, if_true]
    cases h : endsB e nd wh
    · simp [findEnd, h]
    · simp [findEnd, h, Ent.pair]
/-- What stands in the book and in what was told, for entries. -/
structure Bk (out : List (Int × Int)) (ask : Book) (E : List Ent) : Prop where
  out : out = E.map Ent.pair
  ask : ∀ a b k, ask a b = some k ↔ ∃ x, E[k]? = some x ∧ x.op = true ∧ x.nd = a ∧ x.wh = b
  neg : ∀ x ∈ E, x.op = true → x.end_ = -1
theorem Bk.new : Bk [] (fun _ _ => none) [] := ⟨rfl, fun a b k => by simp, fun x hx => by simp at hx⟩
theorem step_get (i : Nat) (e : Evt) (E : List Ent) (k : Nat) : (stepE i e E)[k]? = if k < E.length then (E[k]?).map (Ent.step i e) else if e.kind = 6 ∧ k = E.length then some ⟨(i : Int), e.node, e.who, -1, true⟩ else none := by
  unfold stepE
  by_cases h : k < E.length
  · rw [if_pos h, List.getElem?_append_left (by simpa using h), List.getElem?_map]
  · rw [if_neg h, List.getElem?_append_right (by simpa using h), List.length_map]
    by_cases h6 : e.kind = 6
    · rw [if_pos h6]
      by_cases hk : k = E.length
      · subst hk; simp [h6]
      · rw [if_neg (fun h => hk h.2), List.getElem?_eq_none (by simp; omega)]
    · rw [if_neg h6, if_neg (fun h => h6 h.1)]
      rfl
theorem step_op {i : Nat} {e : Evt} {x : Ent} : (x.step i e).op = true ↔ x.op = true ∧ endsB e x.nd x.wh = false := by
  unfold Ent.step
  cases h1 : x.op <;> cases h2 : endsB e x.nd x.wh <;> simp [h1]
theorem step_same {i : Nat} {e : Evt} {x : Ent} : (x.step i e).nd = x.nd ∧ (x.step i e).wh = x.wh := by
  unfold Ent.step
  split <;> exact ⟨rfl, rfl⟩
theorem Bk.step {out : List (Int × Int)} {ask : Book} {E : List Ent} (h : Bk out ask E) (i : Nat) {e : Evt} : Bk (outS out ask i e) (askS out ask e) (stepE i e E) := by
  have hlen : out.length = E.length := by rw [h.out, List.length_map]
  refine ⟨?_, fun a b k => ?_, fun x hx ho => ?_⟩
  · unfold outS stepE
    by_cases h6 : e.kind = 6
    · rw [if_pos h6, if_pos h6, List.map_append, List.map_map, h.out]
      congr 1
      refine List.map_congr_left fun x hx => ?_
      show x.pair = (x.step i e).pair
      unfold Ent.step Ent.pair
      split
      · rename_i hc
        simp only [Bool.and_eq_true] at hc
        have := h.neg x hx hc.1
        rw [if_neg (by omega)]
        rw [this]
      · rfl
    · rw [if_neg h6, if_neg h6, List.append_nil, List.map_map]
      by_cases h10 : e.kind = 10
      · rw [if_pos h10]
        cases ha : ask e.node e.who with
        | none =>
          show out = _
          rw [h.out]
          refine List.map_congr_left fun x hx => ?_
          show x.pair = (x.step i e).pair
          unfold Ent.step
          split
          · rename_i hc
            exfalso
            simp only [Bool.and_eq_true] at hc
            obtain ⟨k, hkk⟩ := List.getElem?_of_mem hx
            have he := hc.2
            unfold endsB at he
            simp only [Bool.and_eq_true, Bool.or_eq_true, decide_eq_true_eq] at he
            have hw : e.who = x.wh := by rcases he.2 with h | h <;> omega
            have := (h.ask e.node e.who k).2 ⟨x, hkk, hc.1, he.1.symm, hw.symm⟩
            rw [ha] at this
            cases this
          · rfl
        | some k =>
          show setEnd out k i = _
          obtain ⟨x, hx, ho, hn, hw⟩ := (h.ask e.node e.who k).1 ha
          unfold setEnd
          apply List.ext_getElem?
          intro j
          rw [List.getElem?_map, List.getElem?_set]
          by_cases hj : k = j
          · subst hj
            have hlt : k < E.length := (List.getElem?_eq_some_iff.1 hx).1
            rw [if_pos rfl, if_pos (by omega), hx]
            show some _ = some (x.step i e).pair
            congr 1
            have he : endsB e x.nd x.wh = true := by unfold endsB; simp [hn, hw, h10]
            unfold Ent.step
            rw [ho, he, h10]
            simp only [Bool.and_self, if_true]
            rw [h.out, List.getD_eq_getElem?_getD, List.getElem?_map, hx]
            rfl
          · rw [if_neg hj, h.out, List.getElem?_map]
            cases hjx : E[j]? with
            | none => rfl
            | some y =>
              show some y.pair = some (y.step i e).pair
              congr 1
              unfold Ent.step
              split
              · rename_i hc
                exfalso
                simp only [Bool.and_eq_true] at hc
                have he := hc.2
                unfold endsB at he
                simp only [Bool.and_eq_true, Bool.or_eq_true, decide_eq_true_eq] at he
                have hw' : e.who = y.wh := by rcases he.2 with h | h <;> omega
                have := (h.ask e.node e.who j).2 ⟨y, hjx, hc.1, he.1.symm, hw'.symm⟩
                rw [ha] at this
                injection this with this
                exact hj this
              · rfl
      · rw [if_neg h10, h.out]
        refine List.map_congr_left fun x hx => ?_
        show x.pair = (x.step i e).pair
        unfold Ent.step Ent.pair
        split
        · rename_i hc
          simp only [Bool.and_eq_true] at hc
          have := h.neg x hx hc.1
          rw [this]
        · rfl
  · have hold : ∀ {x : Ent}, E[k]? = some x → k < E.length := fun hx => (List.getElem?_eq_some_iff.1 hx).1
    have hE : (∃ x, (stepE i e E)[k]? = some x ∧ x.op = true ∧ x.nd = a ∧ x.wh = b) ↔ ((∃ x, E[k]? = some x ∧ x.op = true ∧ x.nd = a ∧ x.wh = b ∧ endsB e a b = false) ∨ (e.kind = 6 ∧ k = E.length ∧ e.node = a ∧ e.who = b)) := by
      rw [step_get]
      constructor
      · rintro ⟨x, hx, ho, hn, hw⟩
        split at hx
        · obtain ⟨y, hy, rfl⟩ := Option.map_eq_some_iff.1 hx
          obtain ⟨o1, o2⟩ := step_op.1 ho
          obtain ⟨s1, s2⟩ := step_same (i := i) (e := e) (x := y)
          rw [s1] at hn
          rw [s2] at hw
          rw [hn, hw] at o2
          exact .inl ⟨y, hy, o1, hn, hw, o2⟩
        · split at hx
          · rename_i hc
            injection hx with hx
            subst hx
            exact .inr ⟨hc.1, hc.2, hn, hw⟩
          · cases hx
      · rintro (⟨x, hx, ho, hn, hw, he⟩ | ⟨h6, hk, hn, hw⟩)
        · obtain ⟨s1, s2⟩ := step_same (i := i) (e := e) (x := x)
          refine ⟨x.step i e, ?_, step_op.2 ⟨ho, by rw [hn, hw]; exact he⟩, by rw [s1]; exact hn, by rw [s2]; exact hw⟩
          rw [if_pos (hold hx), hx]
          rfl
        · refine ⟨⟨(i : Int), e.node, e.who, -1, true⟩, ?_, rfl, hn, hw⟩
          rw [if_neg (by omega), if_pos ⟨h6, hk⟩]
    rw [hE]
    have hO : (∃ x, E[k]? = some x ∧ x.op = true ∧ x.nd = a ∧ x.wh = b ∧ endsB e a b = false) ↔ ask a b = some k ∧ endsB e a b = false := by
      rw [h.ask]
      constructor
      · rintro ⟨x, h1, h2, h3, h4, h5⟩; exact ⟨⟨x, h1, h2, h3, h4⟩, h5⟩
      · rintro ⟨⟨x, h1, h2, h3, h4⟩, h5⟩; exact ⟨x, h1, h2, h3, h4, h5⟩
    rw [hO]
    have hlt : ∀ {a b k}, ask a b = some k → k < E.length := fun hh => by
      obtain ⟨x, hx, _⟩ := (h.ask _ _ _).1 hh
      exact (List.getElem?_eq_some_iff.1 hx).1
    unfold askS endsB
    by_cases hn : e.node = a
    · by_cases hw : e.who = b
      · subst hn hw
        by_cases h6 : e.kind = 6
        · simp [h6, setB, hlen]
          exact eq_comm
        · by_cases h10 : e.kind = 10
          · simp [h10, setB]
          · by_cases h7 : e.kind = 7
            · simp [h7, setB]
            · by_cases h16 : e.kind = 16
              · simp [h16, dropB]
              · simp [h6, h10, h7, h16]
      · subst hn
        have hw' : ¬ b = e.who := fun h => hw h.symm
        by_cases h6 : e.kind = 6
        · simp [h6, setB, hw, hw']
        · by_cases h10 : e.kind = 10
          · simp [h10, setB, hw, hw']
          · by_cases h7 : e.kind = 7
            · simp [h7, setB, hw, hw']
            · by_cases h16 : e.kind = 16
              · simp [h16, dropB]
              · simp [h6, h10, h7, h16]
    · have hn' : ¬ a = e.node := fun h => hn h.symm
      by_cases h6 : e.kind = 6
      · simp [h6, setB, hn, hn']
      · by_cases h10 : e.kind = 10
        · simp [h10, setB, hn, hn']
        · by_cases h7 : e.kind = 7
          · simp [h7, setB, hn, hn']
          · by_cases h16 : e.kind = 16
            · simp [h16, dropB, hn, hn']
            · simp [h6, h10, h7, h16, hn]
  · unfold stepE at hx
    rcases List.mem_append.1 hx with hx | hx
    · obtain ⟨y, hy, rfl⟩ := List.mem_map.1 hx
      obtain ⟨o1, o2⟩ := step_op.1 ho
      unfold Ent.step
      rw [o1, o2]
      simp only [Bool.and_false, Bool.false_eq_true, if_false]
      exact h.neg y hy o1
    · split at hx
      · simp at hx; subst hx; rfl
      · simp at hx
theorem ans_fin : ∀ (r : List Evt) (i : Nat) (out : List (Int × Int)) (ask : Book) (E : List Ent), Bk out ask E → ansP out ask i r = E.map (Ent.fin i r) ++ ansR i r
  | [], i, out, ask, E, h => by
    unfold ansP ansR
    rw [List.append_nil, h.out]
    refine List.map_congr_left fun x hx => ?_
    unfold Ent.fin
    split
    · rename_i ho
      have := h.neg x hx ho
      unfold Ent.pair findEnd
      rw [this]
    · rfl
  | e :: r, i, out, ask, E, h => by
    have ih := ans_fin r (i + 1) _ _ _ (h.step i (e := e))
    unfold ansP
    rw [ih]
    unfold stepE
    rw [List.map_append, List.map_map, List.append_assoc]
    have e1 : E.map (Ent.fin (i + 1) r ∘ Ent.step i e) = E.map (Ent.fin i (e :: r)) := List.map_congr_left fun x _ => fin_step i e r x
    rw [e1]
    congr 1
    conv => rhs; unfold ansR
    by_cases h6 : e.kind = 6
    · rw [if_pos h6, if_pos h6]
      rfl
    · rw [if_neg h6, if_neg h6]
      rfl
theorem ans_both (l : List Evt) : ansP [] (fun _ _ => none) 0 l = ansR 0 l := by
  rw [ans_fin l 0 [] _ [] Bk.new]
  rfl
/-- The places of a client's events. -/
def ofB (nd wh : Int) (e : Evt) : Bool := decide (6 ≤ e.kind) && decide (e.kind ≤ 10) && decide (e.node = nd) && decide (e.who = wh)
def ofL (nd wh : Int) : Nat → List Evt → List Int
  | _, [] => []
  | i, e :: r => if ofB nd wh e then (i : Int) :: ofL nd wh (i + 1) r else ofL nd wh (i + 1) r
end Go.Proofs.YtiokbebodblhaaaGreatDoor.TraceP
