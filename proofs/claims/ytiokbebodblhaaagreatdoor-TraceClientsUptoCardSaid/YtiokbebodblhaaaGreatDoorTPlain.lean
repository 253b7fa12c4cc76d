/-
  Events and their words in plain Lean: numerals, texts as words, cut at blanks; two events have one text just if they are one.
-/
import Derived.Lib.ItoaNum
import Derived.Lib.ParseIntBCases
import Derived.Lib.IndexMore
import Derived.Lib.SplitLaws
import Derived.Lib.Join
import Derived.Lib.ParseIntBTie
import Derived.RowKit
namespace Go.Proofs.YtiokbebodblhaaaGreatDoor.TraceP
open Go

abbrev Txt := List UInt8
structure Tag where
  text : Txt
  weak : Bool
structure Spn where
  frm : Int
  to : Int
structure Fld where
  name : Txt
  value : Txt
structure Prt where
  text : Txt
  span : Spn
structure Cnd where
  mtch : List Tag
  non : List Tag
  anyM : Bool
  anyN : Bool
  since : Int
  unless_ : Int
  range : Tag
structure Req where
  head : Bool
  object : Txt
  specs : List Spn
  cond : Cnd
structure Met where
  tag : Tag
  modi : Int
  len : Int
  have_ : Int
  fresh : Int
  while_ : Int
  error : Int
  keys : List Txt
  tenant : Txt
  keep : Bool
structure Ans where
  status : Int
  fields : List Fld
  parts : List Prt
  size : Int
structure Fet where
  object : Txt
  span : Spn
  mtch : Tag
  non : Tag
structure Rep where
  status : Int
  met : Met
  span : Spn
  age : Int
structure Evt where
  kind : Int
  tick : Int
  node : Int
  who : Int
  object : Txt
  req : Req
  met : Met
  ans : Ans
  fet : Fet
  rep : Rep
  bytes : Txt
  keys : List Txt
  hard : Bool
  whole : Bool
/- ### Words -/
def hexD (n : Nat) : UInt8 := if n < 10 then UInt8.ofNat (48 + n) else UInt8.ofNat (55 + n)
def plainC (c : UInt8) : Bool := decide (33 ≤ c.toNat) && decide (c.toNat ≤ 126) && decide (c ≠ 37)
def escC (c : UInt8) : Txt := if plainC c then [c] else [37, hexD (c.toNat / 16), hexD (c.toNat % 16)]
def escT (s : Txt) : Txt := s.flatMap escC
/-- A text as a word. -/
def wordT (s : Txt) : Txt := 61 :: escT s
def numT (n : Int) : Txt := Lib.itoa n
def yesT (b : Bool) : Txt := if b then [121, 101, 115] else [110, 111]
def tagT (t : Tag) : Txt := if t.weak then 119 :: wordT t.text else if t.text = [] then [45] else 115 :: wordT t.text
def tagsW (l : List Tag) : List Txt := numT l.length :: l.map tagT
def textsW (l : List Txt) : List Txt := numT l.length :: l.map wordT
def spnW (s : Spn) : List Txt := [numT s.frm, numT s.to]
def spnsW (l : List Spn) : List Txt := numT l.length :: l.flatMap spnW
def fldW (f : Fld) : List Txt := [wordT f.name, wordT f.value]
def fldsW (l : List Fld) : List Txt := numT l.length :: l.flatMap fldW
def prtW (p : Prt) : List Txt := wordT p.text :: spnW p.span
def prtsW (l : List Prt) : List Txt := numT l.length :: l.flatMap prtW
def cndW (c : Cnd) : List Txt := tagsW c.mtch ++ (tagsW c.non ++ (yesT c.anyM :: yesT c.anyN :: numT c.since :: numT c.unless_ :: [tagT c.range]))
def reqW (q : Req) : List Txt := yesT q.head :: wordT q.object :: (spnsW q.specs ++ cndW q.cond)
def metW (m : Met) : List Txt := tagT m.tag :: numT m.modi :: numT m.len :: numT m.have_ :: numT m.fresh :: numT m.while_ :: numT m.error :: (textsW m.keys ++ [wordT m.tenant, yesT m.keep])
def ansW (a : Ans) : List Txt := numT a.status :: (fldsW a.fields ++ (prtsW a.parts ++ [numT a.size]))
def fetW (f : Fet) : List Txt := wordT f.object :: (spnW f.span ++ [tagT f.mtch, tagT f.non])
def repW (r : Rep) : List Txt := numT r.status :: (metW r.met ++ (spnW r.span ++ [numT r.age]))
/- ### Numerals -/
theorem dec_digit : ∀ (n : Nat) (c : UInt8), c ∈ Lib.decDigits n → 48 ≤ c.toNat ∧ c.toNat ≤ 57 := by
  intro n
  induction n using Nat.strongRecOn with
  | _ n ih =>
    intro c hc
    rw [Lib.decDigits] at hc
    split at hc
    · rename_i h
      simp only [List.mem_singleton] at hc
      subst hc
      rw [UInt8.toNat_ofNat']
      omega
    · rename_i h
      rcases List.mem_append.1 hc with h1 | h1
      · exact ih _ (by omega) c h1
      · simp only [List.mem_singleton] at h1
        subst h1
        rw [UInt8.toNat_ofNat']
        omega
theorem dec_ne (n : Nat) : Lib.decDigits n ≠ [] := by
  rw [Lib.decDigits]
  split <;> simp
/-- What digits say. -/
def decV (l : Txt) : Nat := l.foldl (fun n c => 10 * n + (c.toNat - 48)) 0
theorem decV_dec : ∀ n : Nat, decV (Lib.decDigits n) = n := by
  intro n
  induction n using Nat.strongRecOn with
  | _ n ih =>
    rw [Lib.decDigits]
    split
    · rename_i h
      unfold decV
      simp only [List.foldl_cons, List.foldl_nil]
      rw [UInt8.toNat_ofNat']
      omega
    · rename_i h
      have := ih (n / 10) (by omega)
      unfold decV at this ⊢
      rw [List.foldl_append, this]
      simp only [List.foldl_cons, List.foldl_nil]
      rw [UInt8.toNat_ofNat']
      omega
theorem numT_cases (n : Int) : (0 ≤ n ∧ numT n = Lib.decDigits n.toNat) ∨ (n < 0 ∧ numT n = 45 :: Lib.decDigits (-n).toNat) := by
  unfold numT Lib.itoa
  by_cases h : n < 0
  · right; refine ⟨h, ?_⟩; rw [if_pos h, show n.natAbs = (-n).toNat by omega]
  · left; refine ⟨by omega, ?_⟩; rw [if_neg h]
theorem numT_inj {a b : Int} (h : numT a = numT b) : a = b := by
  rcases numT_cases a with ⟨ha, ea⟩ | ⟨ha, ea⟩ <;> rcases numT_cases b with ⟨hb, eb⟩ | ⟨hb, eb⟩ <;> rw [ea, eb] at h
  · have := congrArg decV h
    rw [decV_dec, decV_dec] at this
    omega
  · exfalso
    have := (dec_digit a.toNat 45 (by rw [h]; simp)).1
    exact absurd this (by decide)
  · exfalso
    have := (dec_digit b.toNat 45 (by rw [← h]; simp)).1
    exact absurd this (by decide)
  · injection h with _ h
    have := congrArg decV h
    rw [decV_dec, decV_dec] at this
    omega
/-- A word: no blank in it, not empty. -/
def Wd (t : Txt) : Prop := t ≠ [] ∧ ∀ c ∈ t, c ≠ 32
theorem numT_wd (n : Int) : Wd (numT n) := by
  rcases numT_cases n with ⟨_, e⟩ | ⟨_, e⟩ <;> rw [e]
  · refine ⟨dec_ne _, fun c hc e => ?_⟩
    have := (dec_digit _ c hc).1
    rw [e] at this
    exact absurd this (by decide)
  · refine ⟨by simp, fun c hc e => ?_⟩
    rcases List.mem_cons.1 hc with hc | hc
    · rw [hc] at e; exact absurd e (by decide)
    · have := (dec_digit _ c hc).1
      rw [e] at this
      exact absurd this (by decide)
/- ### Texts as words -/
theorem hexD_sp : ∀ (m : Nat), m < 16 → hexD m ≠ 32 ∧ hexD m ≠ 37 := by decide
theorem escC_cases (c : UInt8) : (plainC c = true ∧ escC c = [c]) ∨ (plainC c = false ∧ escC c = [37, hexD (c.toNat / 16), hexD (c.toNat % 16)]) := by
  unfold escC
  cases plainC c
  · exact .inr ⟨rfl, rfl⟩
  · exact .inl ⟨rfl, rfl⟩
theorem plainC_iff (c : UInt8) : plainC c = true ↔ 33 ≤ c.toNat ∧ c.toNat ≤ 126 ∧ c ≠ 37 := by
  unfold plainC
  simp only [Bool.and_eq_true, decide_eq_true_eq, and_assoc]
theorem escT_sp (s : Txt) : ∀ c ∈ escT s, c ≠ 32 := by
  intro c hc
  unfold escT at hc
  obtain ⟨d, _, hd⟩ := List.mem_flatMap.1 hc
  have h8 := d.toNat_lt
  rcases escC_cases d with ⟨h, e⟩ | ⟨h, e⟩ <;> rw [e] at hd
  · simp only [List.mem_singleton] at hd
    subst hd
    intro e
    have := ((plainC_iff c).1 h).1
    rw [e] at this
    exact absurd this (by decide)
  · simp only [List.mem_cons, List.not_mem_nil, or_false] at hd
    rcases hd with rfl | rfl | rfl
    · decide
    · exact (hexD_sp _ (by omega)).1
    · exact (hexD_sp _ (by omega)).1
theorem wordT_wd (s : Txt) : Wd (wordT s) := by
  refine ⟨by simp [wordT], fun c hc => ?_⟩
  rcases List.mem_cons.1 hc with rfl | hc
  · decide
  · exact escT_sp s c hc
theorem yesT_wd (b : Bool) : Wd (yesT b) := by
  cases b <;> refine ⟨by decide, ?_⟩ <;> decide
theorem tagT_wd (t : Tag) : Wd (tagT t) := by
  obtain ⟨s, w⟩ := t
  unfold tagT
  cases w
  · simp only [Bool.false_eq_true, if_false]
    split
    · exact ⟨by simp, by decide⟩
    · refine ⟨by simp, fun c hc => ?_⟩
      rcases List.mem_cons.1 hc with rfl | hc
      · decide
      · exact (wordT_wd s).2 c hc
  · simp only [if_true]
    refine ⟨by simp, fun c hc => ?_⟩
    rcases List.mem_cons.1 hc with rfl | hc
    · decide
    · exact (wordT_wd s).2 c hc
/- ### Lists of words that tell where they end -/
def Code {α : Type} (w : α → List Txt) : Prop := ∀ a b t u, w a ++ t = w b ++ u → a = b ∧ t = u
theorem Code.one {α : Type} {f : α → Txt} (h : ∀ {a b}, f a = f b → a = b) : Code fun a => [f a] := fun a b t u e => by
  simp only [List.cons_append, List.nil_append] at e
  injection e with e1 e2
  exact ⟨h e1, e2⟩
theorem Code.rep {α : Type} {w : α → List Txt} (h : Code w) : ∀ (a b : List α) (t u : List Txt), a.length = b.length → a.flatMap w ++ t = b.flatMap w ++ u → a = b ∧ t = u
  | [], [], t, u, _, e => ⟨rfl, by simpa using e⟩
  | [], _ :: _, _, _, hl, _ => by simp at hl
  | _ :: _, [], _, _, hl, _ => by simp at hl
  | x :: a, y :: b, t, u, hl, e => by
    rw [List.flatMap_cons, List.flatMap_cons, List.append_assoc, List.append_assoc] at e
    have hq := h x y _ _ e
    replace e := hq.2
    replace hq := hq.1
    subst hq
    have hq := Code.rep h a b t u (by simpa using hl) e
    replace e := hq.2
    replace hq := hq.1
    subst hq
    exact ⟨rfl, e⟩
theorem Code.list {α : Type} {w : α → List Txt} (h : Code w) : Code fun l : List α => numT l.length :: l.flatMap w := fun a b t u e => by
  simp only [List.cons_append] at e
  injection e with e1 e2
  have hl := numT_inj e1
  exact Code.rep h a b t u (by omega) e2
theorem tags_flat (l : List Tag) : tagsW l = numT l.length :: l.flatMap fun t => [tagT t] := by
  unfold tagsW
  congr 1
  induction l with
  | nil => rfl
  | cons a l ih => simp [ih]
theorem texts_flat (l : List Txt) : textsW l = numT l.length :: l.flatMap fun t => [wordT t] := by
  unfold textsW
  congr 1
  induction l with
  | nil => rfl
  | cons a l ih => simp [ih]
/- ### A text of words -/
/-- Words, a blank between any two. -/
def spT : List Txt → Txt
  | [] => []
  | [w] => w
  | w :: v :: ws => w ++ 32 :: spT (v :: ws)
theorem spT_cons (w : Txt) {ws : List Txt} (h : ws ≠ []) : spT (w :: ws) = w ++ 32 :: spT ws := by
  cases ws with
  | nil => exact absurd rfl h
  | cons v ws => rfl
theorem spT_join : ∀ ws : List Txt, spT ws = Lib.join ws [32]
  | [] => rfl
  | [w] => by simp [spT, Lib.join]
  | w :: v :: ws => by
    rw [spT_cons w (by simp), spT_join (v :: ws)]
    simp [Lib.join]
/-- A text cut at each blank. -/
def wordsS : Txt → List Txt
  | [] => [[]]
  | c :: r => if c = 32 then [] :: wordsS r else (c :: (wordsS r).headD []) :: (wordsS r).tail
theorem words_cons (c : UInt8) (r : Txt) (h : c ≠ 32) : wordsS (c :: r) = (c :: (wordsS r).headD []) :: (wordsS r).tail := by rw [wordsS, if_neg h]
theorem words_ne (s : Txt) : wordsS s ≠ [] := by
  cases s with
  | nil => simp [wordsS]
  | cons c r => unfold wordsS; split <;> simp
theorem words_ahead : ∀ (a r : Txt), (∀ c ∈ a, c ≠ 32) → wordsS (a ++ 32 :: r) = a :: wordsS r
  | [], r, _ => by simp [wordsS]
  | c :: a, r, h => by
    have hc : c ≠ 32 := h c (by simp)
    rw [List.cons_append, words_cons _ _ hc, words_ahead a r (fun d hd => h d (by simp [hd]))]
    simp
theorem words_one : ∀ (a : Txt), (∀ c ∈ a, c ≠ 32) → wordsS a = [a]
  | [], _ => rfl
  | c :: a, h => by
    have hc : c ≠ 32 := h c (by simp)
    rw [words_cons _ _ hc, words_one a (fun d hd => h d (by simp [hd]))]
    simp
theorem words_sp : ∀ (ws : List Txt), ws ≠ [] → (∀ w ∈ ws, ∀ c ∈ w, c ≠ 32) → wordsS (spT ws) = ws
  | [], h, _ => absurd rfl h
  | [w], _, h => words_one w (h w (by simp))
  | w :: v :: ws, _, h => by
    rw [spT_cons w (by simp), words_ahead _ _ (h w (by simp)), words_sp (v :: ws) (by simp) fun x hx => h x (by simp [hx])]
/- ### All words are words -/
def Wds (l : List Txt) : Prop := ∀ w ∈ l, Wd w
theorem Wds.nil : Wds [] := fun w h => by simp at h
theorem Wds.cons {w : Txt} {l : List Txt} (h : Wd w) (k : Wds l) : Wds (w :: l) := fun x hx => by
  rcases List.mem_cons.1 hx with rfl | hx
  · exact h
  · exact k x hx
theorem Wds.append {a b : List Txt} (h : Wds a) (k : Wds b) : Wds (a ++ b) := fun x hx => (List.mem_append.1 hx).elim (h x) (k x)
theorem Wds.flat {α : Type} {w : α → List Txt} (h : ∀ a, Wds (w a)) (l : List α) : Wds (l.flatMap w) := fun x hx => by
  obtain ⟨a, _, ha⟩ := List.mem_flatMap.1 hx
  exact h a x ha
theorem tags_wds (l : List Tag) : Wds (tagsW l) := Wds.cons (numT_wd _) fun x hx => by
  obtain ⟨t, _, rfl⟩ := List.mem_map.1 hx
  exact tagT_wd t
theorem texts_wds (l : List Txt) : Wds (textsW l) := Wds.cons (numT_wd _) fun x hx => by
  obtain ⟨t, _, rfl⟩ := List.mem_map.1 hx
  exact wordT_wd t
theorem spn_wds (s : Spn) : Wds (spnW s) := Wds.cons (numT_wd _) (Wds.cons (numT_wd _) Wds.nil)
theorem fld_wds (s : Fld) : Wds (fldW s) := Wds.cons (wordT_wd _) (Wds.cons (wordT_wd _) Wds.nil)
theorem prt_wds (s : Prt) : Wds (prtW s) := Wds.cons (wordT_wd _) (spn_wds _)
theorem spns_wds (l : List Spn) : Wds (spnsW l) := Wds.cons (numT_wd _) (Wds.flat spn_wds l)
theorem flds_wds (l : List Fld) : Wds (fldsW l) := Wds.cons (numT_wd _) (Wds.flat fld_wds l)
theorem prts_wds (l : List Prt) : Wds (prtsW l) := Wds.cons (numT_wd _) (Wds.flat prt_wds l)
theorem cnd_wds (c : Cnd) : Wds (cndW c) := (tags_wds _).append ((tags_wds _).append (Wds.cons (yesT_wd _) (Wds.cons (yesT_wd _) (Wds.cons (numT_wd _) (Wds.cons (numT_wd _) (Wds.cons (tagT_wd _) Wds.nil))))))
theorem req_wds (q : Req) : Wds (reqW q) := Wds.cons (yesT_wd _) (Wds.cons (wordT_wd _) ((spns_wds _).append (cnd_wds _)))
theorem met_wds (m : Met) : Wds (metW m) := Wds.cons (tagT_wd _) (Wds.cons (numT_wd _) (Wds.cons (numT_wd _) (Wds.cons (numT_wd _) (Wds.cons (numT_wd _) (Wds.cons (numT_wd _) (Wds.cons (numT_wd _) ((texts_wds _).append (Wds.cons (wordT_wd _) (Wds.cons (yesT_wd _) Wds.nil)))))))))
theorem ans_wds (a : Ans) : Wds (ansW a) := Wds.cons (numT_wd _) ((flds_wds _).append ((prts_wds _).append (Wds.cons (numT_wd _) Wds.nil)))
theorem fet_wds (f : Fet) : Wds (fetW f) := Wds.cons (wordT_wd _) ((spn_wds _).append (Wds.cons (tagT_wd _) (Wds.cons (tagT_wd _) Wds.nil)))
theorem rep_wds (r : Rep) : Wds (repW r) := Wds.cons (numT_wd _) ((met_wds _).append ((spn_wds _).append (Wds.cons (numT_wd _) Wds.nil)))
end Go.Proofs.YtiokbebodblhaaaGreatDoor.TraceP
namespace Go.Proofs.YtiokbebodblhaaaGreatDoor.TraceP
open Go

def zTag : Tag := ⟨[], false⟩
def zSpn : Spn := ⟨0, 0⟩
def zCnd : Cnd := ⟨[], [], false, false, 0, 0, zTag⟩
def zReq : Req := ⟨false, [], [], zCnd⟩
def zMet : Met := ⟨zTag, 0, 0, 0, 0, 0, 0, [], [], false⟩
def zAns : Ans := ⟨0, [], [], 0⟩
def zFet : Fet := ⟨[], zSpn, zTag, zTag⟩
def zRep : Rep := ⟨0, zMet, zSpn, 0⟩
def zEvt : Evt := ⟨0, 0, 0, 0, [], zReq, zMet, zAns, zFet, zRep, [], [], false, false⟩
/-- An event with nothing but what its kind has. -/
def onlyE (e : Evt) : Evt where
  kind := e.kind
  tick := e.tick
  node := if 6 ≤ e.kind then e.node else 0
  who := if 6 ≤ e.kind ∧ e.kind ≠ 16 then e.who else 0
  object := if 1 ≤ e.kind ∧ e.kind ≤ 4 then e.object else []
  req := if e.kind = 6 then e.req else zReq
  met := if e.kind = 1 then e.met else zMet
  ans := if e.kind = 8 then e.ans else zAns
  fet := if e.kind = 11 then e.fet else zFet
  rep := if e.kind = 12 then e.rep else zRep
  bytes := if e.kind = 1 ∨ e.kind = 2 ∨ e.kind = 9 ∨ e.kind = 13 then e.bytes else []
  keys := if e.kind = 5 then e.keys else []
  hard := if e.kind = 5 then e.hard else false
  whole := if e.kind = 10 ∨ e.kind = 14 then e.whole else false
/-- The numbers that all right events have. -/
def numsE (e : Evt) : Prop := (1 ≤ e.kind ∧ e.kind ≤ 16) ∧ (0 ≤ e.tick ∧ e.tick ≤ 1099511627776) ∧ (0 ≤ e.node ∧ e.node ≤ 1099511627776) ∧ (0 ≤ e.who ∧ e.who ≤ 1099511627776)
def RightE (e : Evt) : Prop := numsE e ∧ e = onlyE e
noncomputable def rightB (e : Evt) : Bool := @decide (RightE e) (Classical.propDecidable _)
theorem rightB_iff (e : Evt) : rightB e = true ↔ RightE e := by
  unfold rightB
  exact @decide_eq_true_iff _ (Classical.propDecidable _)
/-- The kinds' words. -/
def kindT : Nat → Txt
  | 1 => [115, 101, 116]
  | 2 => [103, 114, 111, 119]
  | 3 => [115, 101, 97, 108]
  | 4 => [103, 111, 110, 101]
  | 5 => [112, 117, 114, 103, 101]
  | 6 => [97, 115, 107]
  | 7 => [108, 101, 97, 118, 101]
  | 8 => [104, 101, 97, 100]
  | 9 => [98, 111, 100, 121]
  | 10 => [101, 110, 100]
  | 11 => [102, 101, 116, 99, 104]
  | 12 => [114, 101, 112, 108, 121]
  | 13 => [100, 97, 116, 97]
  | 14 => [99, 108, 111, 115, 101]
  | 15 => [115, 116, 111, 112]
  | 16 => [99, 114, 97, 115, 104]
  | _ => []
theorem kindT_inj {m n : Nat} (hm : 1 ≤ m ∧ m ≤ 16) (hn : 1 ≤ n ∧ n ≤ 16) (h : kindT m = kindT n) : m = n := by
  have := (by decide : ∀ (i j : Fin 17), 1 ≤ i.val → 1 ≤ j.val → kindT i.val = kindT j.val → i.val = j.val) ⟨m, by omega⟩ ⟨n, by omega⟩ hm.1 hn.1 h
  exact this
theorem kindT_wd {m : Nat} (hm : 1 ≤ m ∧ m ≤ 16) : Wd (kindT m) := by
  have := (by decide : ∀ (i : Fin 17), 1 ≤ i.val → kindT i.val ≠ [] ∧ ∀ c ∈ kindT i.val, c ≠ 32) ⟨m, by omega⟩ hm.1
  exact this
/-- The kind that a word is; 0: none's. -/
def kindOf (w : Txt) : Nat := ((List.range 17).find? fun k => decide (1 ≤ k) && (kindT k == w)).getD 0
theorem kindOf_kindT {m : Nat} (hm : 1 ≤ m ∧ m ≤ 16) : kindOf (kindT m) = m := by
  have := (by decide : ∀ (i : Fin 17), 1 ≤ i.val → kindOf (kindT i.val) = i.val) ⟨m, by omega⟩ hm.1
  exact this
theorem kindOf_le (w : Txt) : kindOf w ≤ 16 := by
  unfold kindOf
  cases h : (List.range 17).find? fun k => decide (1 ≤ k) && (kindT k == w) with
  | none => exact Nat.zero_le _
  | some k =>
    have := List.mem_of_find?_eq_some h
    rw [List.mem_range] at this
    show k ≤ 16
    omega
theorem kindOf_some {w : Txt} (h : kindOf w ≠ 0) : kindT (kindOf w) = w ∧ 1 ≤ kindOf w := by
  unfold kindOf at h ⊢
  cases hf : (List.range 17).find? fun k => decide (1 ≤ k) && (kindT k == w) with
  | none => rw [hf] at h; exact absurd rfl h
  | some k =>
    have := List.find?_some hf
    simp only [Bool.and_eq_true, decide_eq_true_eq, beq_iff_eq] at this
    exact ⟨this.2, this.1⟩
/-- The words that a kind has. -/
def bodyW (e : Evt) : List Txt :=
  match e.kind.toNat with
  | 1 => wordT e.object :: (metW e.met ++ [wordT e.bytes])
  | 2 => [wordT e.object, wordT e.bytes]
  | 3 => [wordT e.object]
  | 4 => [wordT e.object]
  | 5 => yesT e.hard :: textsW e.keys
  | 6 => reqW e.req
  | 8 => ansW e.ans
  | 9 => [wordT e.bytes]
  | 10 => [yesT e.whole]
  | 11 => fetW e.fet
  | 12 => repW e.rep
  | 13 => [wordT e.bytes]
  | 14 => [yesT e.whole]
  | _ => []
def nodeW (e : Evt) : List Txt := (if 6 ≤ e.kind then [numT e.node] else []) ++ (if 6 ≤ e.kind ∧ e.kind ≠ 16 then [numT e.who] else [])
def lineW (e : Evt) : List Txt := numT e.tick :: kindT e.kind.toNat :: (nodeW e ++ bodyW e)
def lineT (e : Evt) : Txt := spT (lineW e)
theorem body_wds (e : Evt) : Wds (bodyW e) := by
  unfold bodyW
  split
  · exact Wds.cons (wordT_wd _) ((met_wds _).append (Wds.cons (wordT_wd _) Wds.nil))
  · exact Wds.cons (wordT_wd _) (Wds.cons (wordT_wd _) Wds.nil)
  · exact Wds.cons (wordT_wd _) Wds.nil
  · exact Wds.cons (wordT_wd _) Wds.nil
  · exact Wds.cons (yesT_wd _) (texts_wds _)
  · exact req_wds _
  · exact ans_wds _
  · exact Wds.cons (wordT_wd _) Wds.nil
  · exact Wds.cons (yesT_wd _) Wds.nil
  · exact fet_wds _
  · exact rep_wds _
  · exact Wds.cons (wordT_wd _) Wds.nil
  · exact Wds.cons (yesT_wd _) Wds.nil
  · exact Wds.nil
theorem node_wds (e : Evt) : Wds (nodeW e) := by
  unfold nodeW
  refine Wds.append ?_ ?_ <;> split <;> first | exact Wds.cons (numT_wd _) Wds.nil | exact Wds.nil
theorem line_wds {e : Evt} (h : 1 ≤ e.kind ∧ e.kind ≤ 16) : Wds (lineW e) := Wds.cons (numT_wd _) (Wds.cons (kindT_wd (by omega)) ((node_wds e).append (body_wds e)))
theorem words_line {e : Evt} (h : 1 ≤ e.kind ∧ e.kind ≤ 16) : wordsS (lineT e) = lineW e := words_sp _ (by simp [lineW]) fun w hw => (line_wds h w hw).2
/-- What is told of an event: its line, or why there is none. -/
noncomputable def textT (e : Evt) : Txt := if rightB e then if 65536 < (lineT e).length then [] else lineT e else []
noncomputable def textE (e : Evt) : Int := if rightB e then if 65536 < (lineT e).length then 4 else 0 else 1
theorem text_ok {e : Evt} (h : RightE e) (hl : (lineT e).length ≤ 65536) : textE e = 0 ∧ textT e = lineT e := by
  have hr := (rightB_iff e).2 h
  unfold textE textT
  rw [hr]
  simp only [if_true]
  rw [if_neg (by omega), if_neg (by omega)]
  exact ⟨rfl, rfl⟩
end Go.Proofs.YtiokbebodblhaaaGreatDoor.TraceP
namespace Go.Proofs.YtiokbebodblhaaaGreatDoor.TraceP
open Go

/- ### The document's -/
def verS (o : Txt) (n : Nat) (e : Evt) : Nat :=
  if e.object ≠ o then n else if e.kind = 1 then (if e.met.len = -1 then 1 else 2) else if e.kind = 3 then 2 else if e.kind = 4 then 0 else n
def waitS (nd wh : Int) (n : Nat) (e : Evt) : Nat :=
  if e.node ≠ nd ∨ (e.who ≠ wh ∧ e.kind ≠ 16) then n else if e.kind = 6 then 1 else if e.kind = 7 ∨ e.kind = 10 ∨ e.kind = 16 then 0 else if e.kind = 8 then (if n = 1 then 2 else n) else n
def flyS (nd wh : Int) (n : Nat) (e : Evt) : Nat :=
  if e.node ≠ nd ∨ (e.who ≠ wh ∧ e.kind ≠ 16) then n else if e.kind = 11 then 1 else if e.kind = 12 then (if n = 1 ∧ (e.rep.status = 200 ∨ e.rep.status = 206) then 2 else 0) else if e.kind = 14 ∨ e.kind = 15 ∨ e.kind = 16 then 0 else n
def grtS (nd : Int) (n : Int) (e : Evt) : Int :=
  if e.node = nd ∧ e.kind = 11 then max (if e.node = nd ∧ e.kind = 16 then 0 else n) e.who else (if e.node = nd ∧ e.kind = 16 then 0 else n)
def verF (l : List Evt) (o : Txt) : Nat := l.foldl (verS o) 0
def waitF (l : List Evt) (nd wh : Int) : Nat := l.foldl (waitS nd wh) 0
def flyF (l : List Evt) (nd wh : Int) : Nat := l.foldl (flyS nd wh) 0
def grtF (l : List Evt) (nd : Int) : Int := l.foldl (grtS nd) 0
/-- What a kind asks of what was, and of the event. -/
def askB (e : Evt) (v w f : Nat) (g : Int) : Bool :=
  if e.kind = 1 then (e.met.have_ == (e.bytes.length : Int)) && (e.met.len == -1 || e.met.len == (e.bytes.length : Int))
  else if e.kind = 2 then (v == 1) && decide (0 < e.bytes.length)
  else if e.kind = 3 then v == 1
  else if e.kind = 4 then decide (0 < v)
  else if e.kind = 5 then decide (0 < e.keys.length)
  else if e.kind = 6 then w == 0
  else if e.kind = 7 then decide (0 < w)
  else if e.kind = 8 then w == 1
  else if e.kind = 9 then (w == 2) && decide (0 < e.bytes.length)
  else if e.kind = 10 then w == 2
  else if e.kind = 11 then decide (g < e.who)
  else if e.kind = 12 then f == 1
  else if e.kind = 13 then (f == 2) && decide (0 < e.bytes.length)
  else if e.kind = 14 ∨ e.kind = 15 then decide (0 < f)
  else true
def tickOf (l : List Evt) : Int := match l.getLast? with
  | some e => e.tick
  | none => 0
/- ### The program's -/
structure PSt where
  tick : Int
  obj : Txt → Nat
  wt : Int → Int → Nat
  fl : Int → Int → Nat
  fe : Int → Int
def PSt.new : PSt := ⟨0, fun _ => 0, fun _ _ => 0, fun _ _ => 0, fun _ => 0⟩
def setO (f : Txt → Nat) (o : Txt) (n : Nat) : Txt → Nat := fun x => if x = o then n else f x
def setP (f : Int → Int → Nat) (nd wh : Int) (n : Nat) : Int → Int → Nat := fun a b => if a = nd ∧ b = wh then n else f a b
def dropP (f : Int → Int → Nat) (nd : Int) : Int → Int → Nat := fun a b => if a = nd then 0 else f a b
def setN (f : Int → Int) (nd : Int) (n : Int) : Int → Int := fun a => if a = nd then n else f a
/-- Whether an event may happen; what stands behind it. -/
def mayB (s : PSt) (e : Evt) : Bool :=
  if e.kind = 1 then (e.met.have_ == (e.bytes.length : Int)) && (e.met.len == -1 || e.met.len == (e.bytes.length : Int))
  else if e.kind = 2 then (s.obj e.object == 2) && decide (0 < e.bytes.length)
  else if e.kind = 3 then s.obj e.object == 2
  else if e.kind = 4 then s.obj e.object != 0
  else if e.kind = 5 then decide (0 < e.keys.length)
  else if e.kind = 16 then true
  else if e.kind = 11 then decide (s.fe e.node < e.who)
  else if e.kind = 12 then s.fl e.node e.who == 1
  else if e.kind = 13 then (s.fl e.node e.who == 2) && decide (0 < e.bytes.length)
  else if e.kind = 14 ∨ e.kind = 15 then s.fl e.node e.who != 0
  else if e.kind = 6 then s.wt e.node e.who == 0
  else if e.kind = 7 then s.wt e.node e.who != 0
  else if e.kind = 8 then s.wt e.node e.who == 1
  else if e.kind = 9 then (s.wt e.node e.who == 2) && decide (0 < e.bytes.length)
  else s.wt e.node e.who == 2
def mayS (s : PSt) (e : Evt) : PSt :=
  if e.kind = 1 then { s with obj := setO s.obj e.object (if e.met.len = -1 then 2 else 1) }
  else if e.kind = 2 then s
  else if e.kind = 3 then { s with obj := setO s.obj e.object 1 }
  else if e.kind = 4 then { s with obj := setO s.obj e.object 0 }
  else if e.kind = 5 then s
  else if e.kind = 16 then { s with wt := dropP s.wt e.node, fl := dropP s.fl e.node, fe := setN s.fe e.node 0 }
  else if e.kind = 11 then { s with fe := setN s.fe e.node e.who, fl := setP s.fl e.node e.who 1 }
  else if e.kind = 12 then { s with fl := setP s.fl e.node e.who (if e.rep.status ≠ 200 ∧ e.rep.status ≠ 206 then 0 else 2) }
  else if e.kind = 13 then s
  else if e.kind = 14 ∨ e.kind = 15 then { s with fl := setP s.fl e.node e.who 0 }
  else if e.kind = 6 then { s with wt := setP s.wt e.node e.who 1 }
  else if e.kind = 7 then { s with wt := setP s.wt e.node e.who 0 }
  else if e.kind = 8 then { s with wt := setP s.wt e.node e.who 2 }
  else if e.kind = 9 then s
  else { s with wt := setP s.wt e.node e.who 0 }
def nextS (s : PSt) (e : Evt) : PSt := { mayS s e with tick := e.tick }
/- ### Both are one -/
def codeV (n : Nat) : Nat := if n = 1 then 2 else if n = 2 then 1 else 0
structure Sim (s : PSt) (l : List Evt) : Prop where
  tick : s.tick = tickOf l
  t0 : 0 ≤ s.tick
  obj : ∀ o, s.obj o = codeV (verF l o)
  v2 : ∀ o, verF l o ≤ 2
  wt : ∀ a b, s.wt a b = waitF l a b
  fl : ∀ a b, s.fl a b = flyF l a b
  fe : ∀ a, s.fe a = grtF l a
theorem Sim.new : Sim PSt.new [] := ⟨rfl, Int.le_refl _, fun _ => rfl, fun _ => Nat.zero_le _, fun _ _ => rfl, fun _ _ => rfl, fun _ => rfl⟩
theorem Sim.may {s : PSt} {l : List Evt} (h : Sim s l) {e : Evt} (hr : RightE e) : mayB s e = askB e (verF l e.object) (waitF l e.node e.who) (flyF l e.node e.who) (grtF l e.node) := by
  obtain ⟨⟨⟨k1, k2⟩, _, _, _⟩, _⟩ := hr
  have h1 := h.obj e.object
  have h2 := h.v2 e.object
  have h3 := h.wt e.node e.who
  have h4 := h.fl e.node e.who
  have h5 := h.fe e.node
  generalize verF l e.object = v at *
  generalize waitF l e.node e.who = w at *
  generalize flyF l e.node e.who = f at *
  generalize grtF l e.node = g at *
  unfold mayB askB
  rw [h1, h3, h4, h5]
  have hv : v = 0 ∨ v = 1 ∨ v = 2 := by omega
  obtain ⟨k, hk⟩ : ∃ k : Nat, e.kind = (k : Int) := ⟨e.kind.toNat, by omega⟩
  rw [hk] at k1 k2 ⊢
  have hk1 : 1 ≤ k := by omega
  have hk2 : k ≤ 16 := by omega
  have hw : (w != 0) = decide (0 < w) := by cases w with
    | zero => rfl
    | succ n => simp
  have hf : (f != 0) = decide (0 < f) := by cases f with
    | zero => rfl
    | succ n => simp
  have hcases : k = 1 ∨ k = 2 ∨ k = 3 ∨ k = 4 ∨ k = 5 ∨ k = 6 ∨ k = 7 ∨ k = 8 ∨ k = 9 ∨ k = 10 ∨ k = 11 ∨ k = 12 ∨ k = 13 ∨ k = 14 ∨ k = 15 ∨ k = 16 := by omega
  rcases hcases with rfl | rfl | rfl | rfl | rfl | rfl | rfl | rfl | rfl | rfl | rfl | rfl | rfl | rfl | rfl | rfl <;> simp [hw, hf] <;> rcases hv with rfl | rfl | rfl <;> simp [codeV]
theorem foldl_snoc {α β : Type} (f : β → α → β) (b : β) (l : List α) (a : α) : (l ++ [a]).foldl f b = f (l.foldl f b) a := by simp
theorem tickOf_snoc (l : List Evt) (e : Evt) : tickOf (l ++ [e]) = e.tick := by unfold tickOf; simp
theorem Sim.next {s : PSt} {l : List Evt} (h : Sim s l) {e : Evt} (hr : RightE e) (hm : mayB s e = true) : Sim (nextS s e) (l ++ [e]) := by
  have hask := h.may hr
  rw [hm] at hask
  obtain ⟨⟨⟨k1, k2⟩, ⟨t1, _⟩, _, _⟩, hon⟩ := hr
  obtain ⟨k, hk⟩ : ∃ k : Nat, e.kind = (k : Int) := ⟨e.kind.toNat, by omega⟩
  have hk1 : 1 ≤ k := by omega
  have hk2 : k ≤ 16 := by omega
  have hcases : k = 1 ∨ k = 2 ∨ k = 3 ∨ k = 4 ∨ k = 5 ∨ k = 6 ∨ k = 7 ∨ k = 8 ∨ k = 9 ∨ k = 10 ∨ k = 11 ∨ k = 12 ∨ k = 13 ∨ k = 14 ∨ k = 15 ∨ k = 16 := by omega
  have vs : ∀ o, verF (l ++ [e]) o = verS o (verF l o) e := fun o => foldl_snoc _ _ _ _
  have ws : ∀ a b, waitF (l ++ [e]) a b = waitS a b (waitF l a b) e := fun a b => foldl_snoc _ _ _ _
  have fs : ∀ a b, flyF (l ++ [e]) a b = flyS a b (flyF l a b) e := fun a b => foldl_snoc _ _ _ _
  have gs : ∀ a, grtF (l ++ [e]) a = grtS a (grtF l a) e := fun a => foldl_snoc _ _ _ _
  unfold askB at hask
  refine ⟨(tickOf_snoc l e).symm, t1, fun o => ?_, fun o => ?_, fun a b => ?_, fun a b => ?_, fun a => ?_⟩
  · rw [vs]
    have h1 := h.obj o
    show (mayS s e).obj o = _
    unfold mayS verS
    by_cases ho : e.object = o
    · subst ho
      rcases hcases with rfl | rfl | rfl | rfl | rfl | rfl | rfl | rfl | rfl | rfl | rfl | rfl | rfl | rfl | rfl | rfl <;> simp [hk, setO, h1] <;> (try split) <;> simp [codeV]
    · have ho' : ¬ o = e.object := fun h => ho h.symm
      rcases hcases with rfl | rfl | rfl | rfl | rfl | rfl | rfl | rfl | rfl | rfl | rfl | rfl | rfl | rfl | rfl | rfl <;> simp [hk, setO, h1, ho, ho']
  · rw [vs]
    have h1 := h.v2 o
    unfold verS
    split
    · exact h1
    · split
      · split <;> omega
      · split
        · omega
        · split
          · omega
          · exact h1
  · rw [ws]
    have h1 := h.wt a b
    show (mayS s e).wt a b = _
    unfold mayS waitS
    have h2 := h.wt e.node e.who
    by_cases hn : e.node = a
    · subst hn
      by_cases hw : e.who = b
      · subst hw
        rcases hcases with rfl | rfl | rfl | rfl | rfl | rfl | rfl | rfl | rfl | rfl | rfl | rfl | rfl | rfl | rfl | rfl <;> simp [hk] at hask <;> simp [hk, setP, dropP, h1, hask]
      · have hw' : ¬ b = e.who := fun h => hw h.symm
        rcases hcases with rfl | rfl | rfl | rfl | rfl | rfl | rfl | rfl | rfl | rfl | rfl | rfl | rfl | rfl | rfl | rfl <;> simp [hk, setP, dropP, h1, hw, hw']
    · have hn' : ¬ a = e.node := fun h => hn h.symm
      rcases hcases with rfl | rfl | rfl | rfl | rfl | rfl | rfl | rfl | rfl | rfl | rfl | rfl | rfl | rfl | rfl | rfl <;> simp [hk, setP, dropP, h1, hn, hn']
  · rw [fs]
    have h1 := h.fl a b
    show (mayS s e).fl a b = _
    unfold mayS flyS
    by_cases hn : e.node = a
    · subst hn
      by_cases hw : e.who = b
      · subst hw
        rcases hcases with rfl | rfl | rfl | rfl | rfl | rfl | rfl | rfl | rfl | rfl | rfl | rfl | rfl | rfl | rfl | rfl <;> simp [hk] at hask <;> simp [hk, setP, dropP, h1, hask]
        by_cases s1 : e.rep.status = 200 <;> by_cases s2 : e.rep.status = 206 <;> simp [s1, s2]
      · have hw' : ¬ b = e.who := fun h => hw h.symm
        rcases hcases with rfl | rfl | rfl | rfl | rfl | rfl | rfl | rfl | rfl | rfl | rfl | rfl | rfl | rfl | rfl | rfl <;> simp [hk, setP, dropP, h1, hw, hw']
    · have hn' : ¬ a = e.node := fun h => hn h.symm
      rcases hcases with rfl | rfl | rfl | rfl | rfl | rfl | rfl | rfl | rfl | rfl | rfl | rfl | rfl | rfl | rfl | rfl <;> simp [hk, setP, dropP, h1, hn, hn']
  · rw [gs]
    have h1 := h.fe a
    show (mayS s e).fe a = _
    unfold mayS grtS
    by_cases hn : e.node = a
    · subst hn
      rcases hcases with rfl | rfl | rfl | rfl | rfl | rfl | rfl | rfl | rfl | rfl | rfl | rfl | rfl | rfl | rfl | rfl <;> simp [hk] at hask <;> simp [hk, setN, h1]
      omega
    · have hn' : ¬ a = e.node := fun h => hn h.symm
      rcases hcases with rfl | rfl | rfl | rfl | rfl | rfl | rfl | rfl | rfl | rfl | rfl | rfl | rfl | rfl | rfl | rfl <;> simp [hk, setN, h1, hn, hn']
end Go.Proofs.YtiokbebodblhaaaGreatDoor.TraceP
namespace Go.Proofs.YtiokbebodblhaaaGreatDoor.TraceP
open Go

/-- A number of 64 bits. -/
def I64 (n : Int) : Prop := -9223372036854775808 ≤ n ∧ n ≤ 9223372036854775807
theorem readM_append (M : Nat) : ∀ (l : List UInt8) (acc u : Nat) (c : UInt8), Lib.parseUintM M acc l = .ok u → 48 ≤ c.toNat → c.toNat ≤ 57 → u < 1844674407370955162 → u * 10 + (c.toNat - 48) ≤ M → Lib.parseUintM M acc (l ++ [c]) = .ok (u * 10 + (c.toNat - 48))
  | [], acc, u, c, h, h1, h2, h3, h4 => by
    simp only [Lib.parseUintM] at h
    injection h with h
    subst h
    simp only [List.nil_append, Lib.parseUintM]
    rw [if_pos ⟨h1, h2⟩, if_neg (by omega), if_neg (by omega)]
  | d :: l, acc, u, c, h, h1, h2, h3, h4 => by
    simp only [Lib.parseUintM] at h
    simp only [List.cons_append, Lib.parseUintM]
    split at h
    · rename_i hd
      rw [if_pos hd]
      split at h
      · cases h
      · rename_i hr
        rw [if_neg hr]
        split at h
        · cases h
        · rename_i hs
          rw [if_neg hs]
          exact readM_append M l _ u c h h1 h2 h3 h4
    · cases h
theorem readM_dec (M : Nat) (hM : M = 18446744073709551615) : ∀ n : Nat, n ≤ 9223372036854775808 → Lib.parseUintM M 0 (Lib.decDigits n) = .ok n := by
  intro n
  induction n using Nat.strongRecOn with
  | _ n ih =>
    intro hn
    rw [Lib.decDigits]
    split
    · rename_i h
      have e : (UInt8.ofNat (48 + n)).toNat = 48 + n := by rw [UInt8.toNat_ofNat']; omega
      simp only [Lib.parseUintM]
      rw [e, if_pos (by omega), if_neg (by omega), if_neg (by omega)]
      congr 1
      omega
    · rename_i h
      have e : (UInt8.ofNat (48 + n % 10)).toNat = 48 + n % 10 := by rw [UInt8.toNat_ofNat']; omega
      have := readM_append M (Lib.decDigits (n / 10)) 0 (n / 10) (UInt8.ofNat (48 + n % 10)) (ih _ (by omega) (by omega)) (by omega) (by omega) (by omega) (by omega)
      rw [this]
      congr 1
      omega
theorem readB_dec (n : Nat) (hn : n ≤ 9223372036854775808) : Lib.parseUintB 64 (Lib.decDigits n) = .ok n := by
  unfold Lib.parseUintB
  rw [if_neg (dec_ne n)]
  exact readM_dec _ (by decide) n hn
theorem parse_numT {n : Int} (h : I64 n) : Lib.parseIntB 64 (numT n) = .ok n := by
  obtain ⟨h1, h2⟩ := h
  have h63 : (2 : Nat) ^ (64 - 1) = 9223372036854775808 := by decide
  rcases numT_cases n with ⟨h0, e⟩ | ⟨h0, e⟩ <;> rw [e]
  · have hr := readB_dec n.toNat (by omega)
    have hd := dec_digit n.toNat
    cases hc : Lib.decDigits n.toNat with
    | nil => exact absurd hc (dec_ne _)
    | cons c r =>
      rw [hc] at hr hd
      have h3 := hd c (by simp)
      rw [Lib.parseIntB_plain 64 c r (by omega) (by omega), hr]
      show (if 2 ^ (64 - 1) ≤ n.toNat then _ else _) = _
      rw [h63, if_neg (by omega)]
      congr 1
      omega
  · rw [Lib.parseIntB_minus, readB_dec _ (by omega)]
    show (if 2 ^ (64 - 1) < (-n).toNat then _ else _) = _
    rw [h63, if_neg (by omega)]
    congr 1
    omega
def pnum (l : Txt) : Option Int := match Lib.parseIntB 64 l with
  | .ok v => some v
  | _ => none
theorem pnum_numT {n : Int} (h : I64 n) : pnum (numT n) = some n := by
  unfold pnum
  rw [parse_numT h]
/- ### The reader -/
/-- The words that are left, and whether something wasn't one. -/
abbrev RdS := List Txt × Bool
def pWord (s : RdS) : Txt × RdS := match s.1 with
  | [] => ([], [], true)
  | w :: t => (w, t, s.2)
def pNum (s : RdS) : Int × RdS := match pnum (pWord s).1 with
  | some n => (n, (pWord s).2)
  | none => (0, (pWord s).2.1, true)
def pTruth (s : RdS) : Bool × RdS := ((pWord s).1 == yesT true, (pWord s).2)
def hexV (c : UInt8) : Option Nat := if 48 ≤ c.toNat ∧ c.toNat ≤ 57 then some (c.toNat - 48) else if 97 ≤ c.toNat ∧ c.toNat ≤ 102 then some (c.toNat - 87) else if 65 ≤ c.toNat ∧ c.toNat ≤ 70 then some (c.toNat - 55) else none
def hex2 (a b : UInt8) : Option UInt8 := match hexV a, hexV b with
  | some x, some y => some (UInt8.ofNat (x * 16 + y))
  | _, _ => none
/-- What a word says behind its '='. -/
def unesc : Txt → Option Txt
  | [] => some []
  | c :: r => if c ≠ 37 then (unesc r).map (c :: ·) else match r with
    | a :: b :: r' => match hex2 a b with
      | some x => (unesc r').map (x :: ·)
      | none => none
    | _ => none
def plainO (w : Txt) : Option Txt := match w with
  | [] => none
  | c :: r => if c = 61 then unesc r else none
def pPlain (w : Txt) (s : RdS) : Txt × RdS := match plainO w with
  | some t => (t, s)
  | none => ([], s.1, true)
def pText (s : RdS) : Txt × RdS := pPlain (pWord s).1 (pWord s).2
def pSpan (s : RdS) : Spn × RdS := (⟨(pNum s).1, (pNum (pNum s).2).1⟩, (pNum (pNum s).2).2)
def pTag (s : RdS) : Tag × RdS := match (pWord s).1 with
  | [] => (zTag, (pWord s).2)
  | c :: r => if c = 45 ∧ r = [] then (zTag, (pWord s).2) else (⟨(pPlain r (pWord s).2).1, c == 119⟩, (pPlain r (pWord s).2).2)
def pGo {α : Type} (one : RdS → α × RdS) : Nat → List α → RdS → List α × RdS
  | 0, l, s => (l, s)
  | n + 1, l, s => if s.2 then (l, s) else pGo one n (l ++ [(one s).1]) (one s).2
def pList {α : Type} (one : RdS → α × RdS) (s : RdS) : List α × RdS := pGo one (pNum s).1.toNat [] (pNum s).2
def pFld (s : RdS) : Fld × RdS := (⟨(pText s).1, (pText (pText s).2).1⟩, (pText (pText s).2).2)
def pPrt (s : RdS) : Prt × RdS := (⟨(pText s).1, (pSpan (pText s).2).1⟩, (pSpan (pText s).2).2)
def pCnd (s : RdS) : Cnd × RdS :=
  let a := pList pTag s
  let b := pList pTag a.2
  let c := pTruth b.2
  let d := pTruth c.2
  let e := pNum d.2
  let f := pNum e.2
  let g := pTag f.2
  (⟨a.1, b.1, c.1, d.1, e.1, f.1, g.1⟩, g.2)
def pReq (s : RdS) : Req × RdS :=
  let a := pTruth s
  let b := pText a.2
  let c := pList pSpan b.2
  let d := pCnd c.2
  (⟨a.1, b.1, c.1, d.1⟩, d.2)
def pMet (s : RdS) : Met × RdS :=
  let a := pTag s
  let b := pNum a.2
  let c := pNum b.2
  let d := pNum c.2
  let e := pNum d.2
  let f := pNum e.2
  let g := pNum f.2
  let h := pList pText g.2
  let i := pText h.2
  let j := pTruth i.2
  (⟨a.1, b.1, c.1, d.1, e.1, f.1, g.1, h.1, i.1, j.1⟩, j.2)
def pAns (s : RdS) : Ans × RdS :=
  let a := pNum s
  let b := pList pFld a.2
  let c := pList pPrt b.2
  let d := pNum c.2
  (⟨a.1, b.1, c.1, d.1⟩, d.2)
def pFet (s : RdS) : Fet × RdS :=
  let a := pText s
  let b := pSpan a.2
  let c := pTag b.2
  let d := pTag c.2
  (⟨a.1, b.1, c.1, d.1⟩, d.2)
def pRep (s : RdS) : Rep × RdS :=
  let a := pNum s
  let b := pMet a.2
  let c := pSpan b.2
  let d := pNum c.2
  (⟨a.1, b.1, c.1, d.1⟩, d.2)
/-- What a kind has, read. -/
def pBody (k : Nat) (tick node who : Int) (s : RdS) : Evt × RdS :=
  let z : Evt := { zEvt with kind := k, tick := tick, node := node, who := who }
  match k with
  | 1 =>
    let a := pText s
    let b := pMet a.2
    let c := pText b.2
    ({ z with object := a.1, met := b.1, bytes := c.1 }, c.2)
  | 2 =>
    let a := pText s
    let b := pText a.2
    ({ z with object := a.1, bytes := b.1 }, b.2)
  | 3 => ({ z with object := (pText s).1 }, (pText s).2)
  | 4 => ({ z with object := (pText s).1 }, (pText s).2)
  | 5 =>
    let a := pTruth s
    let b := pList pText a.2
    ({ z with hard := a.1, keys := b.1 }, b.2)
  | 6 => ({ z with req := (pReq s).1 }, (pReq s).2)
  | 8 => ({ z with ans := (pAns s).1 }, (pAns s).2)
  | 9 => ({ z with bytes := (pText s).1 }, (pText s).2)
  | 10 => ({ z with whole := (pTruth s).1 }, (pTruth s).2)
  | 11 => ({ z with fet := (pFet s).1 }, (pFet s).2)
  | 12 => ({ z with rep := (pRep s).1 }, (pRep s).2)
  | 13 => ({ z with bytes := (pText s).1 }, (pText s).2)
  | 14 => ({ z with whole := (pTruth s).1 }, (pTruth s).2)
  | _ => (z, s)
def pNode (k : Nat) (s : RdS) : Int × RdS := if 6 ≤ k then pNum s else (0, s)
def pWho (k : Nat) (s : RdS) : Int × RdS := if 6 ≤ k ∧ k ≠ 16 then pNum s else (0, s)
def pEvt (s : RdS) : Evt × RdS :=
  let a := pNum s
  let b := pWord a.2
  let k := kindOf b.1
  let c := pNode k b.2
  let d := pWho k c.2
  pBody k a.1 c.1 d.1 d.2
/- ### What was written is read back -/
/-- A reader reads back what a writer writes, where the values are such. -/
def Back {α : Type} (P : α → Prop) (w : α → List Txt) (r : RdS → α × RdS) : Prop := ∀ a t, P a → r (w a ++ t, false) = (a, t, false)
theorem num_back : Back I64 (fun n => [numT n]) pNum := fun n t h => by
  unfold pNum
  show (match pnum (numT n) with | some m => (m, (t, false)) | none => _) = _
  rw [pnum_numT h]
theorem truth_back : Back (fun _ => True) (fun b => [yesT b]) pTruth := fun b t _ => by
  cases b <;> rfl
theorem hexV_hexD (n : Nat) (h : n < 16) : hexV (hexD n) = some n := by
  have := (by decide : ∀ i : Fin 16, hexV (hexD i.val) = some i.val) ⟨n, h⟩
  exact this
theorem unesc_cons (c : UInt8) (r : Txt) (h : c ≠ 37) : unesc (c :: r) = (unesc r).map (c :: ·) := by
  match r with
  | [] => simp [unesc, h]
  | [a] => rw [unesc, if_pos h]; intro a b r' e; cases e
  | a :: b :: r' => rw [unesc, if_pos h]
theorem unesc_esc : ∀ s : Txt, unesc (escT s) = some s
  | [] => rfl
  | c :: r => by
    have ih := unesc_esc r
    have e0 : escT (c :: r) = escC c ++ escT r := by simp [escT]
    rw [e0]
    have h8 := c.toNat_lt
    rcases escC_cases c with ⟨h, e⟩ | ⟨h, e⟩ <;> rw [e]
    · rw [List.singleton_append, unesc_cons _ _ ((plainC_iff c).1 h).2.2, ih]
      rfl
    · show unesc (37 :: hexD (c.toNat / 16) :: hexD (c.toNat % 16) :: escT r) = _
      rw [unesc, if_neg (by simp)]
      have : hex2 (hexD (c.toNat / 16)) (hexD (c.toNat % 16)) = some c := by
        unfold hex2
        rw [hexV_hexD _ (by omega), hexV_hexD _ (by omega)]
        show some (UInt8.ofNat (c.toNat / 16 * 16 + c.toNat % 16)) = some c
        congr 1
        apply UInt8.toNat_inj.1
        rw [UInt8.toNat_ofNat']
        omega
      show (match hex2 (hexD (c.toNat / 16)) (hexD (c.toNat % 16)) with | some x => (unesc (escT r)).map (x :: ·) | none => none) = _
      rw [this, ih]
      rfl
theorem plainO_word (s : Txt) : plainO (wordT s) = some s := by
  show (if (61 : UInt8) = 61 then unesc (escT s) else none) = _
  rw [if_pos rfl, unesc_esc]
theorem text_back : Back (fun _ => True) (fun s => [wordT s]) pText := fun s t _ => by
  unfold pText pPlain
  show (match plainO (wordT s) with | some x => (x, (t, false)) | none => _) = _
  rw [plainO_word]
def SpnI (s : Spn) : Prop := I64 s.frm ∧ I64 s.to
theorem span_back : Back SpnI spnW pSpan := fun s t h => by
  have e1 := num_back s.frm (numT s.to :: t) h.1
  have e2 := num_back s.to t h.2
  simp only [List.singleton_append] at e1 e2
  unfold pSpan spnW
  simp only [List.cons_append, List.nil_append]
  rw [e1]
  simp only
  rw [e2]
theorem tag_back : Back (fun _ => True) (fun t => [tagT t]) pTag := fun g t _ => by
  obtain ⟨s, w⟩ := g
  unfold pTag
  simp only [List.singleton_append]
  show (match tagT ⟨s, w⟩ with | [] => _ | c :: r => _) = _
  cases w
  · by_cases hs : s = []
    · subst hs; rfl
    · have e : tagT ⟨s, false⟩ = 115 :: wordT s := by unfold tagT; simp [hs]
      rw [e]
      show (if (115 : UInt8) = 45 ∧ _ then _ else _) = _
      rw [if_neg (by simp)]
      show (Tag.mk (pPlain (wordT s) (t, false)).1 ((115 : UInt8) == 119), (pPlain (wordT s) (t, false)).2) = _
      unfold pPlain
      rw [plainO_word]
      rfl
  · have e : tagT ⟨s, true⟩ = 119 :: wordT s := by unfold tagT; simp
    rw [e]
    show (if (119 : UInt8) = 45 ∧ _ then _ else _) = _
    rw [if_neg (by simp)]
    show (Tag.mk (pPlain (wordT s) (t, false)).1 ((119 : UInt8) == 119), (pPlain (wordT s) (t, false)).2) = _
    unfold pPlain
    rw [plainO_word]
    rfl
theorem go_back {α : Type} {P : α → Prop} {w : α → List Txt} {r : RdS → α × RdS} (h : Back P w r) : ∀ (l acc : List α) (t : List Txt), (∀ a ∈ l, P a) → pGo r l.length acc (l.flatMap w ++ t, false) = (acc ++ l, t, false)
  | [], acc, t, _ => by simp [pGo]
  | a :: l, acc, t, hp => by
    have e := h a (l.flatMap w ++ t) (hp a (by simp))
    rw [List.length_cons, List.flatMap_cons, List.append_assoc]
    unfold pGo
    simp only [Bool.false_eq_true, if_false]
    rw [e, go_back h l (acc ++ [a]) t fun x hx => hp x (by simp [hx])]
    simp
def LstI {α : Type} (P : α → Prop) (l : List α) : Prop := l.length ≤ 9223372036854775807 ∧ ∀ a ∈ l, P a
theorem list_back {α : Type} {P : α → Prop} {w : α → List Txt} {r : RdS → α × RdS} (h : Back P w r) : Back (LstI P) (fun l => numT l.length :: l.flatMap w) (pList r) := fun l t hp => by
  have e := num_back (l.length : Int) (l.flatMap w ++ t) ⟨by omega, by have := hp.1; omega⟩
  simp only [List.singleton_append] at e
  unfold pList
  simp only [List.cons_append]
  rw [e]
  simp only [Int.toNat_natCast]
  rw [go_back h l [] t hp.2, List.nil_append]
theorem tags_back : Back (LstI fun _ => True) tagsW (pList pTag) := fun l t h => by
  rw [tags_flat]
  exact list_back tag_back l t h
theorem texts_back : Back (LstI fun _ => True) textsW (pList pText) := fun l t h => by
  rw [texts_flat]
  exact list_back text_back l t h
theorem spans_back : Back (LstI SpnI) spnsW (pList pSpan) := list_back span_back
theorem fld_back : Back (fun _ => True) fldW pFld := fun f t _ => by
  have e1 := text_back f.name (wordT f.value :: t) trivial
  have e2 := text_back f.value t trivial
  simp only [List.singleton_append] at e1 e2
  unfold pFld fldW
  simp only [List.cons_append, List.nil_append]
  rw [e1]
  simp only
  rw [e2]
theorem flds_back : Back (LstI fun _ => True) fldsW (pList pFld) := list_back fld_back
theorem prt_back : Back (fun p => SpnI p.span) prtW pPrt := fun f t h => by
  have e1 := text_back f.text (spnW f.span ++ t) trivial
  have e2 := span_back f.span t h
  simp only [List.singleton_append] at e1
  unfold pPrt prtW
  simp only [List.cons_append]
  rw [e1]
  simp only
  rw [e2]
theorem prts_back : Back (LstI fun p => SpnI p.span) prtsW (pList pPrt) := list_back prt_back
def CndI (c : Cnd) : Prop := c.mtch.length ≤ 9223372036854775807 ∧ c.non.length ≤ 9223372036854775807 ∧ I64 c.since ∧ I64 c.unless_
theorem cnd_back : Back CndI cndW pCnd := fun c t h => by
  obtain ⟨a1, a2, a3, a4, a5, a6, a7⟩ := c
  obtain ⟨h1, h2, h3, h4⟩ := h
  have e1 := tags_back a1 (tagsW a2 ++ (yesT a3 :: yesT a4 :: numT a5 :: numT a6 :: tagT a7 :: t)) ⟨h1, fun _ _ => trivial⟩
  have e2 := tags_back a2 (yesT a3 :: yesT a4 :: numT a5 :: numT a6 :: tagT a7 :: t) ⟨h2, fun _ _ => trivial⟩
  have e3 := truth_back a3 (yesT a4 :: numT a5 :: numT a6 :: tagT a7 :: t) trivial
  have e4 := truth_back a4 (numT a5 :: numT a6 :: tagT a7 :: t) trivial
  have e5 := num_back a5 (numT a6 :: tagT a7 :: t) h3
  have e6 := num_back a6 (tagT a7 :: t) h4
  have e7 := tag_back a7 t trivial
  simp only [List.singleton_append] at e3 e4 e5 e6 e7
  unfold pCnd cndW
  simp only [List.append_assoc, List.cons_append, List.nil_append]
  simp only [e1, e2, e3, e4, e5, e6, e7]
def ReqI (q : Req) : Prop := LstI SpnI q.specs ∧ CndI q.cond
theorem req_back : Back ReqI reqW pReq := fun q t h => by
  obtain ⟨a1, a2, a3, a4⟩ := q
  have e1 := truth_back a1 (wordT a2 :: (spnsW a3 ++ (cndW a4 ++ t))) trivial
  have e2 := text_back a2 (spnsW a3 ++ (cndW a4 ++ t)) trivial
  have e3 := spans_back a3 (cndW a4 ++ t) h.1
  have e4 := cnd_back a4 t h.2
  simp only [List.singleton_append] at e1 e2
  unfold pReq reqW
  simp only [List.append_assoc, List.cons_append]
  simp only [e1, e2, e3, e4]
def MetI (m : Met) : Prop := I64 m.modi ∧ I64 m.len ∧ I64 m.have_ ∧ I64 m.fresh ∧ I64 m.while_ ∧ I64 m.error ∧ m.keys.length ≤ 9223372036854775807
theorem met_back : Back MetI metW pMet := fun m t h => by
  obtain ⟨a1, a2, a3, a4, a5, a6, a7, a8, a9, a10⟩ := m
  obtain ⟨h2, h3, h4, h5, h6, h7, h8⟩ := h
  have e1 := tag_back a1 (numT a2 :: numT a3 :: numT a4 :: numT a5 :: numT a6 :: numT a7 :: (textsW a8 ++ (wordT a9 :: yesT a10 :: t))) trivial
  have e2 := num_back a2 (numT a3 :: numT a4 :: numT a5 :: numT a6 :: numT a7 :: (textsW a8 ++ (wordT a9 :: yesT a10 :: t))) h2
  have e3 := num_back a3 (numT a4 :: numT a5 :: numT a6 :: numT a7 :: (textsW a8 ++ (wordT a9 :: yesT a10 :: t))) h3
  have e4 := num_back a4 (numT a5 :: numT a6 :: numT a7 :: (textsW a8 ++ (wordT a9 :: yesT a10 :: t))) h4
  have e5 := num_back a5 (numT a6 :: numT a7 :: (textsW a8 ++ (wordT a9 :: yesT a10 :: t))) h5
  have e6 := num_back a6 (numT a7 :: (textsW a8 ++ (wordT a9 :: yesT a10 :: t))) h6
  have e7 := num_back a7 (textsW a8 ++ (wordT a9 :: yesT a10 :: t)) h7
  have e8 := texts_back a8 (wordT a9 :: yesT a10 :: t) ⟨h8, fun _ _ => trivial⟩
  have e9 := text_back a9 (yesT a10 :: t) trivial
  have e10 := truth_back a10 t trivial
  simp only [List.singleton_append] at e1 e2 e3 e4 e5 e6 e7 e9 e10
  unfold pMet metW
  simp only [List.append_assoc, List.cons_append, List.nil_append]
  simp only [e1, e2, e3, e4, e5, e6, e7, e8, e9, e10]
def AnsI (a : Ans) : Prop := I64 a.status ∧ a.fields.length ≤ 9223372036854775807 ∧ LstI (fun p => SpnI p.span) a.parts ∧ I64 a.size
theorem ans_back : Back AnsI ansW pAns := fun a t h => by
  obtain ⟨a1, a2, a3, a4⟩ := a
  obtain ⟨h1, h2, h3, h4⟩ := h
  have e1 := num_back a1 (fldsW a2 ++ (prtsW a3 ++ (numT a4 :: t))) h1
  have e2 := flds_back a2 (prtsW a3 ++ (numT a4 :: t)) ⟨h2, fun _ _ => trivial⟩
  have e3 := prts_back a3 (numT a4 :: t) h3
  have e4 := num_back a4 t h4
  simp only [List.singleton_append] at e1 e4
  unfold pAns ansW
  simp only [List.append_assoc, List.cons_append, List.nil_append]
  simp only [e1, e2, e3, e4]
def FetI (f : Fet) : Prop := SpnI f.span
theorem fet_back : Back FetI fetW pFet := fun a t h => by
  obtain ⟨a1, a2, a3, a4⟩ := a
  have e1 := text_back a1 (spnW a2 ++ (tagT a3 :: tagT a4 :: t)) trivial
  have e2 := span_back a2 (tagT a3 :: tagT a4 :: t) h
  have e3 := tag_back a3 (tagT a4 :: t) trivial
  have e4 := tag_back a4 t trivial
  simp only [List.singleton_append] at e1 e3 e4
  unfold pFet fetW
  simp only [List.append_assoc, List.cons_append, List.nil_append]
  simp only [e1, e2, e3, e4]
def RepI (r : Rep) : Prop := I64 r.status ∧ MetI r.met ∧ SpnI r.span ∧ I64 r.age
theorem rep_back : Back RepI repW pRep := fun a t h => by
  obtain ⟨a1, a2, a3, a4⟩ := a
  obtain ⟨h1, h2, h3, h4⟩ := h
  have e1 := num_back a1 (metW a2 ++ (spnW a3 ++ (numT a4 :: t))) h1
  have e2 := met_back a2 (spnW a3 ++ (numT a4 :: t)) h2
  have e3 := span_back a3 (numT a4 :: t) h3
  have e4 := num_back a4 t h4
  simp only [List.singleton_append] at e1 e4
  unfold pRep repW
  simp only [List.append_assoc, List.cons_append, List.nil_append]
  simp only [e1, e2, e3, e4]
/-- All its numbers are numbers of 64 bits. -/
def EvtI (e : Evt) : Prop := ReqI e.req ∧ MetI e.met ∧ AnsI e.ans ∧ FetI e.fet ∧ RepI e.rep ∧ e.keys.length ≤ 9223372036854775807
theorem evt_ext {a b : Evt} (h1 : a.kind = b.kind) (h2 : a.tick = b.tick) (h3 : a.node = b.node) (h4 : a.who = b.who) (h5 : a.object = b.object) (h6 : a.req = b.req) (h7 : a.met = b.met) (h8 : a.ans = b.ans) (h9 : a.fet = b.fet) (h10 : a.rep = b.rep) (h11 : a.bytes = b.bytes) (h12 : a.keys = b.keys) (h13 : a.hard = b.hard) (h14 : a.whole = b.whole) : a = b := by
  cases a; cases b; simp_all
theorem body_back {e : Evt} (hr : RightE e) (hi : EvtI e) (t : List Txt) : pBody e.kind.toNat e.tick e.node e.who (bodyW e ++ t, false) = (e, t, false) := by
  obtain ⟨⟨⟨k1, k2⟩, _, _, _⟩, ho⟩ := hr
  obtain ⟨i1, i2, i3, i4, i5, i6⟩ := hi
  have hk : (e.kind.toNat : Int) = e.kind := by omega
  obtain ⟨k, hkk⟩ : ∃ k, e.kind.toNat = k := ⟨_, rfl⟩
  have hke : e.kind = (k : Int) := by omega
  have hk1 : 1 ≤ k := by omega
  have hk2 : k ≤ 16 := by omega
  rw [hkk]
  have fin : ∀ x : Evt, x = e → (x, t, false) = ((e, t, false) : Evt × RdS) := fun x h => by rw [h]
  have c1 := congrArg Evt.object ho
  have c2 := congrArg Evt.req ho
  have c3 := congrArg Evt.met ho
  have c4 := congrArg Evt.ans ho
  have c5 := congrArg Evt.fet ho
  have c6 := congrArg Evt.rep ho
  have c7 := congrArg Evt.bytes ho
  have c8 := congrArg Evt.keys ho
  have c9 := congrArg Evt.hard ho
  have c10 := congrArg Evt.whole ho
  simp only [onlyE, hke] at c1 c2 c3 c4 c5 c6 c7 c8 c9 c10
  have T := fun (s : Txt) (t : List Txt) => (text_back s t trivial)
  have B := fun (s : Bool) (t : List Txt) => (truth_back s t trivial)
  simp only [List.singleton_append] at T B
  have M := fun t => met_back e.met t i2
  have R := req_back e.req t i1
  have A := ans_back e.ans t i3
  have Fe := fet_back e.fet t i4
  have Re := rep_back e.rep t i5
  have K := texts_back e.keys t ⟨i6, fun _ _ => trivial⟩
  unfold bodyW
  rw [hkk]
  have hcases : k = 1 ∨ k = 2 ∨ k = 3 ∨ k = 4 ∨ k = 5 ∨ k = 6 ∨ k = 7 ∨ k = 8 ∨ k = 9 ∨ k = 10 ∨ k = 11 ∨ k = 12 ∨ k = 13 ∨ k = 14 ∨ k = 15 ∨ k = 16 := by omega
  rcases hcases with rfl | rfl | rfl | rfl | rfl | rfl | rfl | rfl | rfl | rfl | rfl | rfl | rfl | rfl | rfl | rfl <;>
    simp only [pBody, List.append_assoc, List.cons_append, List.nil_append, T, B, M, R, A, Fe, Re, K] <;>
    refine fin _ (evt_ext ?_ rfl rfl rfl ?_ ?_ ?_ ?_ ?_ ?_ ?_ ?_ ?_ ?_) <;>
    first | rfl | exact hke.symm | (simp at c1; exact c1.symm) | (simp at c2; exact c2.symm) | (simp at c3; exact c3.symm) | (simp at c4; exact c4.symm) | (simp at c5; exact c5.symm) | (simp at c6; exact c6.symm) | (simp at c7; exact c7.symm) | (simp at c8; exact c8.symm) | (simp at c9; exact c9.symm) | (simp at c10; exact c10.symm)
/-- A right event's line is read back. -/
theorem evt_back {e : Evt} (hr : RightE e) (hi : EvtI e) : pEvt (lineW e, false) = (e, [], false) := by
  have hr' := hr
  obtain ⟨⟨⟨k1, k2⟩, ⟨t1, t2⟩, ⟨n1, n2⟩, ⟨w1, w2⟩⟩, ho⟩ := hr
  have e1 := num_back e.tick (kindT e.kind.toNat :: (nodeW e ++ bodyW e)) ⟨by omega, by omega⟩
  simp only [List.singleton_append] at e1
  have hk : kindOf (kindT e.kind.toNat) = e.kind.toNat := kindOf_kindT ⟨by omega, by omega⟩
  have eb := body_back hr' hi []
  rw [List.append_nil] at eb
  have c1 := congrArg Evt.node ho
  have c2 := congrArg Evt.who ho
  simp only [onlyE] at c1 c2
  have n0 := num_back e.node
  have m0 := num_back e.who
  simp only [List.singleton_append] at n0 m0
  unfold pEvt lineW
  simp only [e1]
  have ew : pWord (kindT e.kind.toNat :: (nodeW e ++ bodyW e), false) = (kindT e.kind.toNat, nodeW e ++ bodyW e, false) := rfl
  simp only [ew, hk]
  by_cases h6 : 6 ≤ e.kind
  · have h6' : 6 ≤ e.kind.toNat := by omega
    by_cases h16 : e.kind = 16
    · have h16' : e.kind.toNat = 16 := by omega
      have en : nodeW e = [numT e.node] := by unfold nodeW; rw [if_pos h6, if_neg (fun h => h.2 h16)]; rfl
      rw [if_neg (fun h => h.2 h16)] at c2
      rw [en]
      unfold pNode pWho
      rw [if_pos h6', if_neg (fun h => h.2 h16')]
      simp only [List.singleton_append]
      rw [n0 _ ⟨by omega, by omega⟩]
      simp only
      rw [← c2]
      exact eb
    · have h16' : e.kind.toNat ≠ 16 := by omega
      have en : nodeW e = [numT e.node, numT e.who] := by unfold nodeW; rw [if_pos h6, if_pos ⟨h6, h16⟩]; rfl
      rw [en]
      unfold pNode pWho
      rw [if_pos h6', if_pos ⟨h6', h16'⟩]
      simp only [List.cons_append, List.nil_append]
      rw [n0 _ ⟨by omega, by omega⟩]
      simp only
      rw [m0 _ ⟨by omega, by omega⟩]
      exact eb
  · have h6' : ¬ 6 ≤ e.kind.toNat := by omega
    have en : nodeW e = [] := by unfold nodeW; rw [if_neg h6, if_neg (fun h => h6 h.1)]; rfl
    rw [if_neg h6] at c1
    rw [if_neg (fun h => h6 h.1)] at c2
    rw [en]
    unfold pNode pWho
    rw [if_neg h6', if_neg (fun h => h6' h.1)]
    simp only [List.nil_append]
    rw [c1, c2] at eb
    exact eb
/-- What the program's Parse tells. -/
noncomputable def parE (s : Txt) : Option Evt :=
  if 65536 < s.length then none else if (pEvt (wordsS s, false)).2.2 = true ∨ (pEvt (wordsS s, false)).2.1 ≠ [] then none else
    if textE (pEvt (wordsS s, false)).1 = 0 ∧ textT (pEvt (wordsS s, false)).1 = s then some (pEvt (wordsS s, false)).1 else none
theorem parE_line {e : Evt} (hr : RightE e) (hi : EvtI e) (hl : (lineT e).length ≤ 65536) : parE (lineT e) = some e := by
  have hb := evt_back hr hi
  have hw : wordsS (lineT e) = lineW e := words_line hr.1.1
  obtain ⟨t1, t2⟩ := text_ok hr hl
  unfold parE
  rw [if_neg (by omega), hw, hb]
  simp only
  rw [if_neg (by simp), if_pos ⟨t1, t2⟩]
end Go.Proofs.YtiokbebodblhaaaGreatDoor.TraceP
namespace Go.Proofs.YtiokbebodblhaaaGreatDoor.TraceP
open Go

theorem pnum_i64 {t : Txt} {n : Int} (h : pnum t = some n) : I64 n := by
  unfold pnum at h
  split at h
  · rename_i v hv
    injection h with h
    subst h
    have hb := Lib.parseIntB_bounds hv
    have h63 : (2 : Nat) ^ (64 - 1) = 9223372036854775808 := by decide
    rw [h63] at hb
    exact ⟨by omega, by omega⟩
  · cases h
theorem pNum_i64 (s : RdS) : I64 (pNum s).1 := by
  unfold pNum
  split
  · rename_i n h
    exact pnum_i64 h
  · exact ⟨(by decide : (-9223372036854775808 : Int) ≤ 0), (by decide : (0 : Int) ≤ 9223372036854775807)⟩
/-- No word is longer than a line may be; there are few. -/
def Sh (s : RdS) : Prop := (∀ x ∈ s.1, x.length ≤ 65536) ∧ s.1.length ≤ 100000
/-- A reader's method: it takes a word or tells that there was none, makes no words; what it tells is such. -/
structure Eats {α : Type} (P : α → Prop) (p : RdS → α × RdS) : Prop where
  one : ∀ s, (p s).2.1.length + 1 ≤ s.1.length + (if (p s).2.2 = true then 1 else 0)
  le : ∀ s, (p s).2.1.length ≤ s.1.length
  bad : ∀ s, s.2 = true → (p s).2.2 = true
  sh : ∀ s, Sh s → Sh (p s).2
  out : ∀ s, Sh s → P (p s).1
/-- The like, that may take nothing. -/
structure Lets {α : Type} (P : α → Prop) (p : RdS → α × RdS) : Prop where
  le : ∀ s, (p s).2.1.length ≤ s.1.length
  bad : ∀ s, s.2 = true → (p s).2.2 = true
  sh : ∀ s, Sh s → Sh (p s).2
  out : ∀ s, Sh s → P (p s).1
theorem Eats.lets {α : Type} {P : α → Prop} {p : RdS → α × RdS} (h : Eats P p) : Lets P p := ⟨h.le, h.bad, h.sh, h.out⟩
theorem word_eats : Eats (fun t => t.length ≤ 65536) pWord := by
  refine ⟨?_, ?_, ?_, ?_, ?_⟩ <;> rintro ⟨l, b⟩ <;> cases l with
  | nil => simp [pWord, Sh]
  | cons t r => first | (simp [pWord]; done) | (simp [pWord]; intro e; exact e) | (rintro ⟨h1, h2⟩; exact ⟨fun x hx => h1 x (List.mem_cons_of_mem _ hx), Nat.le_of_succ_le h2⟩) | (rintro ⟨h1, h2⟩; exact h1 t (List.mem_cons_self ..))
/-- One behind the other. -/
theorem Eats.seq {α β γ : Type} {P : α → Prop} {R : β → Prop} {p : RdS → α × RdS} {q : RdS → β × RdS} (h : Eats P p) (k : Lets R q) (S : γ → Prop) (f : α → β → γ) (hf : ∀ a b, P a → R b → S (f a b)) :
    Eats S fun s => (f (p s).1 (q (p s).2).1, (q (p s).2).2) := by
  refine ⟨fun s => ?_, fun s => ?_, fun s hs => ?_, fun s hs => ?_, fun s hs => ?_⟩
  · have h1 := h.one s
    have h2 := k.le (p s).2
    have h3 := k.bad (p s).2
    show (q (p s).2).2.1.length + 1 ≤ s.1.length + (if (q (p s).2).2.2 = true then 1 else 0)
    by_cases hb : (p s).2.2 = true
    · rw [if_pos (h3 hb)]; rw [if_pos hb] at h1; omega
    · rw [if_neg hb] at h1; omega
  · exact Nat.le_trans (k.le _) (h.le s)
  · exact k.bad _ (h.bad s hs)
  · exact k.sh _ (h.sh s hs)
  · exact hf _ _ (h.out s hs) (k.out _ (h.sh s hs))
theorem num_eats : Eats I64 pNum := by
  have hw := word_eats
  refine ⟨fun s => ?_, fun s => ?_, fun s hs => ?_, fun s hs => ?_, fun s _ => pNum_i64 s⟩
  · have := hw.one s
    unfold pNum
    split
    · exact this
    · have := hw.le s
      show (pWord s).2.1.length + 1 ≤ s.1.length + 1
      omega
  · have := hw.le s
    unfold pNum
    split <;> exact this
  · have := hw.bad s hs
    unfold pNum
    split
    · exact this
    · rfl
  · have := hw.sh s hs
    unfold pNum
    split <;> exact this
theorem truth_eats : Eats (fun _ => True) pTruth := ⟨word_eats.one, word_eats.le, word_eats.bad, word_eats.sh, fun _ _ => trivial⟩
theorem unesc_le : ∀ (n : Nat) (t u : Txt), t.length ≤ n → unesc t = some u → u.length ≤ t.length
  | _, [], u, _, h => by injection h with h; subst h; exact Nat.le_refl _
  | n + 1, c :: r, u, hn, h => by
    rw [List.length_cons] at hn
    unfold unesc at h
    split at h
    · cases hr : unesc r with
      | none => rw [hr] at h; cases h
      | some v =>
        rw [hr] at h
        injection h with h
        subst h
        have := unesc_le n r v (by omega) hr
        rw [List.length_cons, List.length_cons]
        omega
    · split at h
      · rename_i a b r' 
        split at h
        · rename_i x _
          cases hr : unesc r' with
          | none => rw [hr] at h; cases h
          | some v =>
            rw [hr] at h
            injection h with h
            subst h
            have := unesc_le n r' v (by simp at hn; omega) hr
            simp only [List.length_cons]
            omega
        · cases h
      · cases h
theorem plainO_le {t u : Txt} (h : plainO t = some u) : u.length ≤ t.length := by
  unfold plainO at h
  split at h
  · cases h
  · split at h
    · rename_i c r _
      have := unesc_le _ _ _ (Nat.le_refl _) h
      rw [List.length_cons]
      omega
    · cases h
theorem pPlain_le (t : Txt) (s : RdS) : (pPlain t s).1.length ≤ t.length := by
  unfold pPlain
  split
  · rename_i u h
    exact plainO_le h
  · exact Nat.zero_le _
theorem pPlain_words (t : Txt) (s : RdS) : (pPlain t s).2.1 = s.1 := by
  unfold pPlain
  split <;> rfl
theorem pPlain_bad (t : Txt) (s : RdS) (h : s.2 = true) : (pPlain t s).2.2 = true := by
  unfold pPlain
  split
  · exact h
  · rfl
def ShT (t : Txt) : Prop := t.length ≤ 65536
theorem text_eats : Eats ShT pText := by
  have hw := word_eats
  refine ⟨fun s => ?_, fun s => ?_, fun s hs => ?_, fun s hs => ?_, fun s hs => ?_⟩ <;> unfold pText
  · have h1 := hw.one s
    rw [pPlain_words]
    have := pPlain_bad (pWord s).1 (pWord s).2
    by_cases hb : (pWord s).2.2 = true
    · rw [if_pos (this hb)]; rw [if_pos hb] at h1; omega
    · rw [if_neg hb] at h1; omega
  · rw [pPlain_words]; exact hw.le s
  · exact pPlain_bad _ _ (hw.bad s hs)
  · have := hw.sh s hs
    unfold Sh
    rw [pPlain_words]
    exact this
  · exact Nat.le_trans (pPlain_le _ _) (hw.out s hs)
theorem tag_two (s : RdS) : pTag s = (zTag, (pWord s).2) ∨ ∃ (r : Txt) (k : Bool), r.length ≤ (pWord s).1.length ∧ pTag s = (⟨(pPlain r (pWord s).2).1, k⟩, (pPlain r (pWord s).2).2) := by
  unfold pTag
  cases h : (pWord s).1 with
  | nil => exact .inl rfl
  | cons c r =>
    dsimp only
    split
    · exact .inl rfl
    · exact .inr ⟨r, c == 119, by rw [List.length_cons]; omega, rfl⟩
theorem tag_eats : Eats (fun t => ShT t.text) pTag := by
  have hw := word_eats
  have z : ShT zTag.text := Nat.zero_le _
  refine ⟨fun s => ?_, fun s => ?_, fun s hs => ?_, fun s hs => ?_, fun s hs => ?_⟩ <;> rcases tag_two s with e | ⟨r, k, hr, e⟩ <;> rw [e]
  · exact hw.one s
  · have h1 := hw.one s
    show (pPlain r (pWord s).2).2.1.length + 1 ≤ s.1.length + (if (pPlain r (pWord s).2).2.2 = true then 1 else 0)
    rw [pPlain_words]
    have := pPlain_bad r (pWord s).2
    by_cases hb : (pWord s).2.2 = true
    · rw [if_pos (this hb)]; rw [if_pos hb] at h1; omega
    · rw [if_neg hb] at h1; omega
  · exact hw.le s
  · show (pPlain r (pWord s).2).2.1.length ≤ _
    rw [pPlain_words]; exact hw.le s
  · exact hw.bad s hs
  · exact pPlain_bad _ _ (hw.bad s hs)
  · exact hw.sh s hs
  · have := hw.sh s hs
    show Sh (pPlain r (pWord s).2).2
    unfold Sh
    rw [pPlain_words]
    exact this
  · exact z
  · have h1 := hw.out s hs
    exact Nat.le_trans (pPlain_le _ _) (Nat.le_trans hr h1)
theorem span_eats : Eats SpnI pSpan := num_eats.seq num_eats.lets SpnI Spn.mk fun _ _ h k => ⟨h, k⟩
def FldI (f : Fld) : Prop := ShT f.name ∧ ShT f.value
theorem fld_eats : Eats FldI pFld := text_eats.seq text_eats.lets FldI Fld.mk fun _ _ h k => ⟨h, k⟩
def PrtI (p : Prt) : Prop := ShT p.text ∧ SpnI p.span
theorem prt_eats : Eats PrtI pPrt := text_eats.seq span_eats.lets PrtI Prt.mk fun _ _ h k => ⟨h, k⟩
/-- A list that is read: no more than there are words, and one. -/
theorem go_few {α : Type} {P : α → Prop} {p : RdS → α × RdS} (h : Eats P p) : ∀ (n : Nat) (l : List α) (s : RdS),
    (pGo p n l s).1.length + (pGo p n l s).2.1.length ≤ l.length + s.1.length + (if (pGo p n l s).2.2 = true then 1 else 0) ∧ (pGo p n l s).2.1.length ≤ s.1.length ∧ (s.2 = true → (pGo p n l s).2.2 = true) ∧
      (Sh s → Sh (pGo p n l s).2 ∧ ((∀ a ∈ l, P a) → ∀ a ∈ (pGo p n l s).1, P a))
  | 0, l, s => ⟨Nat.le_add_right _ _, Nat.le_refl _, fun hb => hb, fun hs => ⟨hs, fun hl => hl⟩⟩
  | n + 1, l, s => by
    unfold pGo
    by_cases hb : s.2 = true
    · rw [if_pos hb]
      exact ⟨Nat.le_add_right _ _, Nat.le_refl _, fun hb => hb, fun hs => ⟨hs, fun hl => hl⟩⟩
    · rw [if_neg hb]
      obtain ⟨h1, h2, h3, h4⟩ := go_few h n (l ++ [(p s).1]) (p s).2
      refine ⟨?_, Nat.le_trans h2 (h.le s), fun hb' => absurd hb' hb, fun hs => ⟨(h4 (h.sh s hs)).1, fun hl => (h4 (h.sh s hs)).2 fun a ha => ?_⟩⟩
      · rw [List.length_append, List.length_singleton] at h1
        have h5 := h.one s
        by_cases hp : (p s).2.2 = true
        · have hg := h3 hp
          rw [if_pos hg] at h1 ⊢
          have e : pGo p n (l ++ [(p s).1]) (p s).2 = (l ++ [(p s).1], (p s).2) := by
            cases n with
            | zero => rfl
            | succ n => unfold pGo; rw [if_pos hp]
          rw [e, List.length_append, List.length_singleton]
          have := h.le s
          show l.length + 1 + (p s).2.1.length ≤ _
          omega
        · rw [if_neg hp] at h5
          omega
      · rcases List.mem_append.1 ha with ha | ha
        · exact hl a ha
        · rw [List.mem_singleton] at ha
          subst ha
          exact h.out s hs
def LstP {α : Type} (n : Nat) (P : α → Prop) (l : List α) : Prop := l.length ≤ n ∧ ∀ a ∈ l, P a
theorem pGo_len {α : Type} {P : α → Prop} {p : RdS → α × RdS} (h : Eats P p) (s : RdS) : (pList p s).1.length ≤ s.1.length + 1 := by
  have h1 := (go_few h (pNum s).1.toNat [] (pNum s).2).1
  have h2 := num_eats.le s
  show (pGo p (pNum s).1.toNat [] (pNum s).2).1.length ≤ _
  rw [List.length_nil, Nat.zero_add] at h1
  split at h1 <;> omega
theorem list_eats {α : Type} {P : α → Prop} {p : RdS → α × RdS} (h : Eats P p) : Eats (LstP 100001 P) (pList p) := by
  refine ⟨fun s => ?_, fun s => ?_, fun s hs => ?_, fun s hs => ?_, fun s hs => ?_⟩ <;> unfold pList <;> obtain ⟨h1, h2, h3, h4⟩ := go_few h (pNum s).1.toNat [] (pNum s).2
  · have h5 := num_eats.one s
    by_cases hp : (pNum s).2.2 = true
    · rw [if_pos (h3 hp)]
      rw [if_pos hp] at h5
      omega
    · rw [if_neg hp] at h5
      split <;> omega
  · exact Nat.le_trans h2 (num_eats.le s)
  · exact h3 (num_eats.bad s hs)
  · exact (h4 (num_eats.sh s hs)).1
  · exact ⟨Nat.le_trans (pGo_len h s) (Nat.succ_le_succ hs.2), (h4 (num_eats.sh s hs)).2 (fun a ha => absurd ha (List.not_mem_nil))⟩
/- ### What is read, thing by thing -/
structure ReqP (q : Req) : Prop where
  object : ShT q.object
  specs : LstP 100001 SpnI q.specs
  mtch : LstP 100001 (fun t => ShT t.text) q.cond.mtch
  non : LstP 100001 (fun t => ShT t.text) q.cond.non
  since : I64 q.cond.since
  unless_ : I64 q.cond.unless_
  range : ShT q.cond.range.text
theorem req_out {s : RdS} (h0 : Sh s) : ReqP (pReq s).1 ∧ Sh (pReq s).2 := by
  have h1 := truth_eats.sh _ h0
  have h2 := text_eats.sh _ h1
  have h3 := (list_eats span_eats).sh _ h2
  have h4 := (list_eats tag_eats).sh _ h3
  have h5 := (list_eats tag_eats).sh _ h4
  have h6 := truth_eats.sh _ h5
  have h7 := truth_eats.sh _ h6
  have h8 := num_eats.sh _ h7
  have h9 := num_eats.sh _ h8
  exact ⟨⟨text_eats.out _ h1, (list_eats span_eats).out _ h2, (list_eats tag_eats).out _ h3, (list_eats tag_eats).out _ h4, pNum_i64 _, pNum_i64 _, tag_eats.out _ h9⟩, tag_eats.sh _ h9⟩
structure MetP (m : Met) : Prop where
  tag : ShT m.tag.text
  modi : I64 m.modi
  len : I64 m.len
  have_ : I64 m.have_
  fresh : I64 m.fresh
  while_ : I64 m.while_
  error : I64 m.error
  keys : LstP 100001 ShT m.keys
  tenant : ShT m.tenant
theorem met_out {s : RdS} (h0 : Sh s) : MetP (pMet s).1 ∧ Sh (pMet s).2 := by
  have h1 := tag_eats.sh _ h0
  have h2 := num_eats.sh _ h1
  have h3 := num_eats.sh _ h2
  have h4 := num_eats.sh _ h3
  have h5 := num_eats.sh _ h4
  have h6 := num_eats.sh _ h5
  have h7 := num_eats.sh _ h6
  have h8 := (list_eats text_eats).sh _ h7
  have h9 := text_eats.sh _ h8
  exact ⟨⟨tag_eats.out _ h0, pNum_i64 _, pNum_i64 _, pNum_i64 _, pNum_i64 _, pNum_i64 _, pNum_i64 _, (list_eats text_eats).out _ h7, text_eats.out _ h8⟩, truth_eats.sh _ h9⟩
structure AnsP (a : Ans) : Prop where
  status : I64 a.status
  fields : LstP 100001 FldI a.fields
  parts : LstP 100001 PrtI a.parts
  size : I64 a.size
theorem ans_out {s : RdS} (h0 : Sh s) : AnsP (pAns s).1 ∧ Sh (pAns s).2 := by
  have h1 := num_eats.sh _ h0
  have h2 := (list_eats fld_eats).sh _ h1
  have h3 := (list_eats prt_eats).sh _ h2
  exact ⟨⟨pNum_i64 _, (list_eats fld_eats).out _ h1, (list_eats prt_eats).out _ h2, pNum_i64 _⟩, num_eats.sh _ h3⟩
structure FetP (f : Fet) : Prop where
  object : ShT f.object
  span : SpnI f.span
  mtch : ShT f.mtch.text
  non : ShT f.non.text
theorem fet_out {s : RdS} (h0 : Sh s) : FetP (pFet s).1 ∧ Sh (pFet s).2 := by
  have h1 := text_eats.sh _ h0
  have h2 := span_eats.sh _ h1
  have h3 := tag_eats.sh _ h2
  exact ⟨⟨text_eats.out _ h0, span_eats.out _ h1, tag_eats.out _ h2, tag_eats.out _ h3⟩, tag_eats.sh _ h3⟩
structure RepP (r : Rep) : Prop where
  status : I64 r.status
  met : MetP r.met
  span : SpnI r.span
  age : I64 r.age
theorem rep_out {s : RdS} (h0 : Sh s) : RepP (pRep s).1 ∧ Sh (pRep s).2 := by
  have h1 := num_eats.sh _ h0
  have h2 := met_out h1
  have h3 := span_eats.sh _ h2.2
  exact ⟨⟨pNum_i64 _, h2.1, span_eats.out _ h2.2, pNum_i64 _⟩, num_eats.sh _ h3⟩
structure EvtP (e : Evt) : Prop where
  kind : 0 ≤ e.kind ∧ e.kind ≤ 16
  tick : I64 e.tick
  node : I64 e.node
  who : I64 e.who
  object : ShT e.object
  req : ReqP e.req
  met : MetP e.met
  ans : AnsP e.ans
  fet : FetP e.fet
  rep : RepP e.rep
  bytes : ShT e.bytes
  keys : LstP 100001 ShT e.keys
theorem i64_zero : I64 0 := ⟨by decide, by decide⟩
theorem zReq_p : ReqP zReq := ⟨Nat.zero_le _, ⟨Nat.zero_le _, fun _ h => absurd h List.not_mem_nil⟩, ⟨Nat.zero_le _, fun _ h => absurd h List.not_mem_nil⟩, ⟨Nat.zero_le _, fun _ h => absurd h List.not_mem_nil⟩, i64_zero, i64_zero, Nat.zero_le _⟩
theorem zMet_p : MetP zMet := ⟨Nat.zero_le _, i64_zero, i64_zero, i64_zero, i64_zero, i64_zero, i64_zero, ⟨Nat.zero_le _, fun _ h => absurd h List.not_mem_nil⟩, Nat.zero_le _⟩
theorem zAns_p : AnsP zAns := ⟨i64_zero, ⟨Nat.zero_le _, fun _ h => absurd h List.not_mem_nil⟩, ⟨Nat.zero_le _, fun _ h => absurd h List.not_mem_nil⟩, i64_zero⟩
theorem zFet_p : FetP zFet := ⟨Nat.zero_le _, ⟨i64_zero, i64_zero⟩, Nat.zero_le _, Nat.zero_le _⟩
theorem zRep_p : RepP zRep := ⟨i64_zero, zMet_p, ⟨i64_zero, i64_zero⟩, i64_zero⟩
theorem zEvt_p {k : Int} {t n w : Int} (hk : 0 ≤ k ∧ k ≤ 16) (ht : I64 t) (hn : I64 n) (hw : I64 w) : EvtP { zEvt with kind := k, tick := t, node := n, who := w } :=
  ⟨hk, ht, hn, hw, Nat.zero_le _, zReq_p, zMet_p, zAns_p, zFet_p, zRep_p, Nat.zero_le _, ⟨Nat.zero_le _, fun _ h => absurd h List.not_mem_nil⟩⟩
theorem body_out {k : Nat} {t n w : Int} {s : RdS} (hk : k ≤ 16) (ht : I64 t) (hn : I64 n) (hw : I64 w) (h0 : Sh s) : EvtP (pBody k t n w s).1 ∧ Sh (pBody k t n w s).2 := by
  have z := zEvt_p (k := (k : Int)) ⟨by omega, by omega⟩ ht hn hw
  have o1 := text_eats.out _ h0
  have s1 := text_eats.sh _ h0
  unfold pBody
  split
  · have m := met_out s1
    exact ⟨{ z with object := o1, met := m.1, bytes := text_eats.out _ m.2 }, text_eats.sh _ m.2⟩
  · exact ⟨{ z with object := o1, bytes := text_eats.out _ s1 }, text_eats.sh _ s1⟩
  · exact ⟨{ z with object := o1 }, s1⟩
  · exact ⟨{ z with object := o1 }, s1⟩
  · have t1 := truth_eats.sh _ h0
    exact ⟨{ z with keys := (list_eats text_eats).out _ t1 }, (list_eats text_eats).sh _ t1⟩
  · exact ⟨{ z with req := (req_out h0).1 }, (req_out h0).2⟩
  · exact ⟨{ z with ans := (ans_out h0).1 }, (ans_out h0).2⟩
  · exact ⟨{ z with bytes := o1 }, s1⟩
  · exact ⟨{ z with }, truth_eats.sh _ h0⟩
  · exact ⟨{ z with fet := (fet_out h0).1 }, (fet_out h0).2⟩
  · exact ⟨{ z with rep := (rep_out h0).1 }, (rep_out h0).2⟩
  · exact ⟨{ z with bytes := o1 }, s1⟩
  · exact ⟨{ z with }, truth_eats.sh _ h0⟩
  · exact ⟨z, h0⟩
theorem evt_out {s : RdS} (h0 : Sh s) : EvtP (pEvt s).1 ∧ Sh (pEvt s).2 := by
  have h1 := num_eats.sh _ h0
  have h2 := word_eats.sh _ h1
  have hn : I64 (pNode (kindOf (pWord (pNum s).2).1) (pWord (pNum s).2).2).1 ∧ Sh (pNode (kindOf (pWord (pNum s).2).1) (pWord (pNum s).2).2).2 := by
    unfold pNode
    split
    · exact ⟨pNum_i64 _, num_eats.sh _ h2⟩
    · exact ⟨i64_zero, h2⟩
  have hw : I64 (pWho (kindOf (pWord (pNum s).2).1) (pNode (kindOf (pWord (pNum s).2).1) (pWord (pNum s).2).2).2).1 ∧ Sh (pWho (kindOf (pWord (pNum s).2).1) (pNode (kindOf (pWord (pNum s).2).1) (pWord (pNum s).2).2).2).2 := by
    unfold pWho
    split
    · exact ⟨pNum_i64 _, num_eats.sh _ hn.2⟩
    · exact ⟨i64_zero, hn.2⟩
  exact body_out (kindOf_le _) (pNum_i64 _) hn.1 hw.1 hw.2
/- ### Its line's words are not too long, nor too many -/
def Lw (n : Nat) (W : List Txt) : Prop := W.length ≤ n ∧ ∀ x ∈ W, x.length ≤ 1000000
theorem Lw.nil : Lw 0 [] := ⟨Nat.le_refl _, fun _ h => absurd h List.not_mem_nil⟩
theorem Lw.cons {n : Nat} {t : Txt} {W : List Txt} (h : t.length ≤ 1000000) (k : Lw n W) : Lw (n + 1) (t :: W) := ⟨Nat.succ_le_succ k.1, fun x hx => (List.mem_cons.1 hx).elim (fun e => e ▸ h) (k.2 x)⟩
theorem Lw.append {n m : Nat} {V W : List Txt} (h : Lw n V) (k : Lw m W) : Lw (n + m) (V ++ W) := ⟨by rw [List.length_append]; exact Nat.add_le_add h.1 k.1, fun x hx => (List.mem_append.1 hx).elim (h.2 x) (k.2 x)⟩
theorem Lw.mono {n m : Nat} {W : List Txt} (h : Lw n W) (k : n ≤ m) : Lw m W := ⟨Nat.le_trans h.1 k, h.2⟩
theorem Lw.flat {α : Type} {P : α → Prop} {w : α → List Txt} {j : Nat} (h : ∀ a, P a → Lw j (w a)) : ∀ (l : List α), (∀ a ∈ l, P a) → Lw (l.length * j) (l.flatMap w)
  | [], _ => by rw [List.length_nil, Nat.zero_mul]; exact Lw.nil
  | a :: l, hl => by
    rw [List.flatMap_cons, List.length_cons, Nat.succ_mul, Nat.add_comm]
    exact (h a (hl a (List.mem_cons_self ..))).append (Lw.flat h l fun x hx => hl x (List.mem_cons_of_mem _ hx))
theorem dec_len (n : Nat) (k : Nat) (h : n < 10 ^ k) (hk : 1 ≤ k) : (Lib.decDigits n).length ≤ k := by
  induction k generalizing n with
  | zero => omega
  | succ k ih =>
    rw [Lib.decDigits]
    split
    · simp
    · rename_i h10
      rw [List.length_append, List.length_singleton]
      have hk1 : 1 ≤ k := by
        rcases k with _ | k
        · rw [Nat.pow_one] at h; omega
        · omega
      have := ih (n / 10) (by rw [Nat.pow_succ] at h; omega) hk1
      omega
theorem numT_len {n : Int} (h : I64 n) : (numT n).length ≤ 1000000 := by
  obtain ⟨h1, h2⟩ := h
  rcases numT_cases n with ⟨h0, e⟩ | ⟨h0, e⟩ <;> rw [e]
  · have := dec_len n.toNat 20 (by rw [show (10 : Nat) ^ 20 = 100000000000000000000 by decide]; omega) (by decide)
    omega
  · have := dec_len (-n).toNat 20 (by rw [show (10 : Nat) ^ 20 = 100000000000000000000 by decide]; omega) (by decide)
    rw [List.length_cons]
    omega
theorem escT_len (t : Txt) : (escT t).length ≤ 3 * t.length := by
  unfold escT
  induction t with
  | nil => simp
  | cons c l ih =>
    rw [List.flatMap_cons, List.length_append, List.length_cons]
    have : (escC c).length ≤ 3 := by rcases escC_cases c with ⟨_, e⟩ | ⟨_, e⟩ <;> rw [e] <;> simp
    omega
theorem wordT_len {t : Txt} (h : ShT t) : (wordT t).length ≤ 1000000 := by
  have := escT_len t
  have : t.length ≤ 65536 := h
  show (escT t).length + 1 ≤ _
  omega
theorem tagT_len {t : Tag} (h : ShT t.text) : (tagT t).length ≤ 1000000 := by
  have := escT_len t.text
  have : t.text.length ≤ 65536 := h
  unfold tagT
  split
  · show (escT t.text).length + 1 + 1 ≤ _
    omega
  · split
    · decide
    · show (escT t.text).length + 1 + 1 ≤ _
      omega
theorem yesT_len (b : Bool) : (yesT b).length ≤ 1000000 := by cases b <;> decide
theorem lenT_len {n : Nat} (h : n ≤ 100001) : (numT (n : Int)).length ≤ 1000000 := numT_len ⟨by omega, by omega⟩
theorem spn_lw {s : Spn} (h : SpnI s) : Lw 2 (spnW s) := Lw.cons (numT_len h.1) (Lw.cons (numT_len h.2) Lw.nil)
theorem lst_lw {α : Type} {P : α → Prop} {w : α → List Txt} {j : Nat} (h : ∀ a, P a → Lw j (w a)) {l : List α} (hl : LstP 100001 P l) : Lw (100001 * j + 1) (numT l.length :: l.flatMap w) :=
  Lw.cons (lenT_len hl.1) ((Lw.flat h l hl.2).mono (Nat.mul_le_mul_right j hl.1))
theorem tags_lw {l : List Tag} (h : LstP 100001 (fun t => ShT t.text) l) : Lw (100001 * 1 + 1) (tagsW l) := by rw [tags_flat]; exact lst_lw (fun a ha => Lw.cons (tagT_len ha) Lw.nil) h
theorem texts_lw {l : List Txt} (h : LstP 100001 ShT l) : Lw (100001 * 1 + 1) (textsW l) := by rw [texts_flat]; exact lst_lw (fun a ha => Lw.cons (wordT_len ha) Lw.nil) h
theorem req_lw {q : Req} (h : ReqP q) : Lw 500000 (reqW q) :=
  (Lw.cons (yesT_len _) (Lw.cons (wordT_len h.object) ((lst_lw (w := spnW) (fun a ha => spn_lw ha) h.specs).append ((tags_lw h.mtch).append ((tags_lw h.non).append (Lw.cons (yesT_len _) (Lw.cons (yesT_len _) (Lw.cons (numT_len h.since) (Lw.cons (numT_len h.unless_) (Lw.cons (tagT_len h.range) Lw.nil)))))))))).mono (by decide)
theorem met_lw {m : Met} (h : MetP m) : Lw 200000 (metW m) :=
  (Lw.cons (tagT_len h.tag) (Lw.cons (numT_len h.modi) (Lw.cons (numT_len h.len) (Lw.cons (numT_len h.have_) (Lw.cons (numT_len h.fresh) (Lw.cons (numT_len h.while_) (Lw.cons (numT_len h.error) ((texts_lw h.keys).append (Lw.cons (wordT_len h.tenant) (Lw.cons (yesT_len _) Lw.nil)))))))))).mono (by decide)
theorem ans_lw {a : Ans} (h : AnsP a) : Lw 600000 (ansW a) :=
  (Lw.cons (numT_len h.status) ((lst_lw (w := fldW) (fun a (ha : FldI a) => Lw.cons (wordT_len ha.1) (Lw.cons (wordT_len ha.2) Lw.nil)) h.fields).append ((lst_lw (w := prtW) (fun a (ha : PrtI a) => Lw.cons (wordT_len ha.1) (spn_lw ha.2)) h.parts).append (Lw.cons (numT_len h.size) Lw.nil)))).mono (by decide)
theorem fet_lw {f : Fet} (h : FetP f) : Lw 5 (fetW f) := Lw.cons (wordT_len h.object) ((spn_lw h.span).append (Lw.cons (tagT_len h.mtch) (Lw.cons (tagT_len h.non) Lw.nil)))
theorem rep_lw {r : Rep} (h : RepP r) : Lw 300000 (repW r) := (Lw.cons (numT_len h.status) ((met_lw h.met).append ((spn_lw h.span).append (Lw.cons (numT_len h.age) Lw.nil)))).mono (by decide)
theorem body_lw {e : Evt} (h : EvtP e) : Lw 600002 (bodyW e) := by
  have W := wordT_len h.object
  have B := wordT_len h.bytes
  have o1 := Lw.cons W Lw.nil
  have b1 := Lw.cons B Lw.nil
  have y1 := Lw.cons (yesT_len e.whole) Lw.nil
  unfold bodyW
  split
  · exact (Lw.cons W ((met_lw h.met).append b1)).mono (by decide)
  · exact (Lw.cons W b1).mono (by decide)
  · exact o1.mono (by decide)
  · exact o1.mono (by decide)
  · exact (Lw.cons (yesT_len _) (texts_lw h.keys)).mono (by decide)
  · exact (req_lw h.req).mono (by decide)
  · exact (ans_lw h.ans).mono (by decide)
  · exact b1.mono (by decide)
  · exact y1.mono (by decide)
  · exact (fet_lw h.fet).mono (by decide)
  · exact (rep_lw h.rep).mono (by decide)
  · exact b1.mono (by decide)
  · exact y1.mono (by decide)
  · exact Lw.nil.mono (by decide)
theorem kindT_len (k : Nat) : (kindT k).length ≤ 1000000 := by
  unfold kindT
  split <;> decide
theorem line_lw {e : Evt} (h : EvtP e) : Lw 600010 (lineW e) := by
  have hn : Lw 2 (nodeW e) := by
    unfold nodeW
    split <;> split
    · exact Lw.cons (numT_len h.node) (Lw.cons (numT_len h.who) Lw.nil)
    · exact (Lw.cons (numT_len h.node) Lw.nil).mono (by decide)
    · exact (Lw.cons (numT_len h.who) Lw.nil).mono (by decide)
    · exact Lw.nil.mono (by decide)
  exact (Lw.cons (numT_len h.tick) (Lw.cons (kindT_len _) (hn.append (body_lw h)))).mono (by decide)
end Go.Proofs.YtiokbebodblhaaaGreatDoor.TraceP
namespace Go.Proofs.YtiokbebodblhaaaGreatDoor.TraceP
open Go

/- ### What was written is read back -/
theorem flat_len {α : Type} {w : α → List Txt} (h : ∀ a, 1 ≤ (w a).length) : ∀ l : List α, l.length ≤ (l.flatMap w).length
  | [] => by simp
  | a :: l => by
    have := flat_len h l
    have := h a
    rw [List.flatMap_cons, List.length_append, List.length_cons]
    omega
end Go.Proofs.YtiokbebodblhaaaGreatDoor.TraceP
namespace Go.Proofs.YtiokbebodblhaaaGreatDoor.TraceP
open Go

/- ### What is read has numbers of 64 bits -/
/- ### Lines -/
/- ### Joined lines -/
/-- A word with no end of a line in it. -/
def Nl (t : Txt) : Prop := ∀ c ∈ t, c ≠ 10
def Nls (l : List Txt) : Prop := ∀ w ∈ l, Nl w
theorem Nls.nil : Nls [] := fun w h => by simp at h
theorem Nls.cons {w : Txt} {l : List Txt} (h : Nl w) (k : Nls l) : Nls (w :: l) := fun x hx => by
  rcases List.mem_cons.1 hx with rfl | hx
  · exact h
  · exact k x hx
theorem Nls.append {a b : List Txt} (h : Nls a) (k : Nls b) : Nls (a ++ b) := fun x hx => (List.mem_append.1 hx).elim (h x) (k x)
theorem Nls.flat {α : Type} {w : α → List Txt} (h : ∀ a, Nls (w a)) (l : List α) : Nls (l.flatMap w) := fun x hx => by
  obtain ⟨a, _, ha⟩ := List.mem_flatMap.1 hx
  exact h a x ha
end Go.Proofs.YtiokbebodblhaaaGreatDoor.TraceP
