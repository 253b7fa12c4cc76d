/-
  How a store lies in memory: its struct, its log, its free sectors, its maps, its marks; what a change of one part leaves.
-/
import Derived.Test.YtendnkklbeiegaaGreatDoorMAN
import Derived.Test.YtendnkklbeiegaaGreatDoorMAK
import Derived.Test.YtendnkklbeiegaaGreatDoorExtWalk
import Derived.Test.YtendnkklbeiegaaGreatDoorMapV
namespace Go.Proofs.YtendnkklbeiegaaGreatDoor
open Go.RowKit StoreP JourP DiskP PageP

inductive Part where
  | box | log | free | notes | slices | marks
  deriving DecidableEq
def Apart (f : Part → Nat → Prop) : Prop := ∀ p q k, f p k → f q k → p = q
theorem Apart.change {f g : Part → Nat → Prop} {N : Nat} (h : Apart f) (p0 : Part) (lt : ∀ p k, f p k → k < N) (same : ∀ p, p ≠ p0 → ∀ k, g p k → f p k) (new : ∀ k, g p0 k → f p0 k ∨ N ≤ k) : Apart g := by
  intro p q k hp hq
  by_cases e1 : p = p0
  · by_cases e2 : q = p0
    · rw [e1, e2]
    · subst e1
      have h2 := same q e2 k hq
      rcases new k hp with h3 | h3
      · exact h p q k h3 h2
      · have := lt q k h2; omega
  · by_cases e2 : q = p0
    · subst e2
      have h1 := same p e1 k hp
      rcases new k hq with h3 | h3
      · exact h p q k h1 h3
      · have := lt p k h1; omega
    · exact h p q k (same p e1 k hp) (same q e2 k hq)
def nmV (n : Nm) : Value := .agg #[.int .i64 (n.1 : Int), .int .i64 (n.2 : Int)]
def slotV (x : Slot) : Value := .agg #[.int .i64 (x.at_ : Int), .int .i64 1, .int .i64 (x.len : Int), .int .i64 (x.mark : Int)]
def txV (t : List UInt8) : Value := .string (bstr t)
def encN (f : Nat → Option (List UInt8)) : Value → Option Value
  | .int .i64 n => if 0 ≤ n then (f n.toNat).map txV else none
  | _ => none
def encS (f : Nm → Option Slot) : Value → Option Value
  | .agg ⟨[.int .i64 a, .int .i64 b]⟩ => if 0 ≤ a ∧ 0 ≤ b then (f (a.toNat, b.toNat)).map slotV else none
  | _ => none
theorem encN_at (f : Nat → Option (List UInt8)) (v : Nat) : encN f (.int .i64 (v : Int)) = (f v).map txV := by simp [encN]
theorem encS_at (f : Nm → Option Slot) (n : Nm) : encS f (nmV n) = (f n).map slotV := by simp [encS, nmV]
theorem encN_none : encN (fun _ => none) = fun _ => none := by
  funext u
  unfold encN
  split <;> simp
theorem encS_none : encS (fun _ => none) = fun _ => none := by
  funext u
  unfold encS
  split <;> simp
theorem encN_set (f : Nat → Option (List UInt8)) (v : Nat) (t : Option (List UInt8)) : setM (encN f) (.int .i64 (v : Int)) (t.map txV) = encN (upd f v t) := by
  funext u
  by_cases e : u = .int .i64 (v : Int)
  · subst e
    rw [setM_same, encN_at, upd_same]
  · rw [setM_other _ e]
    unfold encN
    split
    · rename_i n
      split
      · rw [upd_other]
        intro e2
        exact e (by subst e2; congr 1; omega)
      · rfl
    · rfl
theorem encS_set (f : Nm → Option Slot) (n : Nm) (x : Option Slot) : setM (encS f) (nmV n) (x.map slotV) = encS (upd f n x) := by
  funext u
  by_cases e : u = nmV n
  · subst e
    rw [setM_same, encS_at, upd_same]
  · rw [setM_other _ e]
    unfold encS
    split
    · rename_i a b
      split
      · rename_i hab
        rw [upd_other]
        intro e2
        refine e ?_
        subst e2
        unfold nmV
        simp only
        rw [Int.toNat_of_nonneg hab.1, Int.toNat_of_nonneg hab.2]
      · rfl
    · rfl
/-- A store's places. -/
structure StoL where
  B : Nat
  j : JL
  x : XMap
  N : Nat
  nn : Nat
  M : Nat
  mn : Nat
  v : Value
def StoL.foot (σ : StoL) : Part → Nat → Prop
  | .box, k => k = σ.B
  | .log, k => σ.j.foot k
  | .free, k => σ.x.foot k
  | .notes, k => k = σ.N
  | .slices, k => k = σ.M
  | .marks, k => σ.v.ownBlock = some k
def StoL.all (σ : StoL) (k : Nat) : Prop := ∃ p, σ.foot p k
/-- A store in plain words: its log, its disk, what it holds, which sectors are free, its numbers; no more than so many things are in it; X are blocks of its user's, from which the log's bytes lie apart. -/
structure SP where
  p : PJ
  d : Dsk
  st : St
  fr : Nat → Prop
  epoch : Nat
  puts : Nat
  many : Nat
  X : Nat → Prop := fun _ => False
def StoL.cells (σ : StoL) (epoch puts : Nat) : Array Value := #[.pointer (some ⟨σ.j.y.D, 0, none⟩), .int .i64 128, .pointer (some ⟨σ.j.G, 0, none⟩), .pointer (some ⟨σ.x.M, 0, none⟩), .map (some σ.N), .map (some σ.M), σ.v, .int .i64 (epoch : Int), .int .i64 (puts : Int)]
structure StoOK (w : World) (base : Nat) (σ : StoL) (s : SP) : Prop where
  bx : Blk w σ.B 99 (σ.cells s.epoch s.puts)
  lg : JLog w base σ.j s.p
  fr : ExtOK w base 128 512 σ.x s.fr
  nt : MapV w 2 σ.N σ.nn (encN s.st.notes)
  sl : MapV w 40 σ.M σ.mn (encS s.st.sl)
  mk_ : w.ownsRow base 9 1 σ.v s.st.marks.length (s.st.marks.map txV)
  ap : Apart σ.foot
  ba : ∀ z ∈ σ.j.rs, RecOK w (fun k => σ.all k ∨ s.X k) z
  lo : ∀ k, σ.all k → base ≤ k
  dk : σ.j.y.abs = s.d
  sz : σ.j.y.size = 128
  ll : σ.j.y.lp.length = 512
  cnt : σ.nn + σ.mn + s.st.marks.length ≤ s.many
  xl : ∀ k, s.X k → k < w.heap.size
theorem StoOK.bo {w : World} {base : Nat} {σ : StoL} {s : SP} (h : StoOK w base σ s) : ∀ z ∈ σ.j.rs, RecOK w σ.all z := fun z hz => (h.ba z hz).mono fun _ _ q => .inl q
def NextS (w : World) (base : Nat) (σ : StoL) (s' : SP) (w' : World) : Prop :=
  ∃ σ', StoOK w' base σ' s' ∧ σ'.B = σ.B ∧ σ'.j.y.D = σ.j.y.D ∧ Kept σ.all w w' ∧ ∀ k, σ'.all k → σ.all k ∨ w.heap.size ≤ k
/-- A record's bytes stay apart from G where F is changed, which they lie apart from too. -/
theorem RecOK.cross' {w w' : World} {F G : Nat → Prop} {z : RecR} (h : RecOK w G z) (hf : RecOK w F z) (k : Kept F w w') : RecOK w' G z :=
  ((h.cross hf).next (k.mono fun _ _ q => .inr q) fun _ _ q => .inl q)
/-- A log stays where neither its blocks nor its records' bytes are touched. -/
theorem JLog.kept {w w' : World} {base : Nat} {j : JL} {p : PJ} {F : Nat → Prop} (h : JLog w base j p) (k : Kept F w w') (hF : ∀ i, j.foot i → ¬ F i) (hb : ∀ z ∈ j.rs, RecOK w F z) : JLog w' base j p := by
  refine { h with ok := ⟨(k.block _ h.ok.gk.lt (hF _ (.inl rfl))).trans h.ok.gk, h.ok.dk.kept k fun i hi => hF i (.inr (.inr hi)), ⟨⟨own_frame h.ok.kp.row.own fun i hi => k.block i (h.ok.kp.row.own.lt i hi).2 (hF i (.inr (.inl hi))), fun z hz => ?_⟩, h.ok.kp.gv, h.ok.kp.vy⟩, h.ok.bG, h.ok.gy⟩ }
  exact ((h.ok.kp.row.ks z hz).cross' (hb z hz) k)
section
variable {w w' w1 : World} {base : Nat} {σ σ' : StoL} {s s' : SP}
theorem StoOK.lt (h : StoOK w base σ s) : ∀ (p : Part) (k : Nat), σ.foot p k → k < w.heap.size
  | .box, _, hk => by have := h.bx.lt; exact hk ▸ this
  | .log, _, hk => (h.lg.ok.foot_lt hk).2
  | .free, _, hk => (h.fr.foot_lt hk).2
  | .notes, _, hk => by have := h.nt.lt; exact hk ▸ this
  | .slices, _, hk => by have := h.sl.lt; exact hk ▸ this
  | .marks, k, hk => (h.mk_.lt k hk).2
theorem StoOK.all_lt (h : StoOK w base σ s) {k : Nat} (hk : σ.all k) : k < w.heap.size := by obtain ⟨p, hk⟩ := hk; exact h.lt p k hk
theorem StoOK.below (h : StoOK w base σ s) (b : Below w.heap.size w w') : StoOK w' base σ s :=
  { h with
    bx := h.bx.below b h.bx.lt
    lg := h.lg.below b
    fr := h.fr.below b
    nt := h.nt.below b h.nt.lt
    sl := h.sl.below b h.sl.lt
    mk_ := own_below h.mk_ b fun k hk => (h.mk_.lt k hk).2
    ba := fun z hz => (h.ba z hz).below b
    xl := fun k hk => Nat.lt_of_lt_of_le (h.xl k hk) b.size }
theorem StoOK.same_below (h : StoOK w base σ s) (b : Below w.heap.size w w') : NextS w base σ s w' := ⟨σ, h.below b, rfl, rfl, Kept.of_below b _, fun _ hk => .inl hk⟩
theorem NextS.from_ (e1 : σ'.B = σ.B) (e2 : σ'.j.y.D = σ.j.y.D) (k : Kept σ.all w w1) (f : ∀ k, σ'.all k → σ.all k ∨ w.heap.size ≤ k) (n : NextS w1 base σ' s' w') : NextS w base σ s' w' := by
  obtain ⟨σ2, a1, a2, a3, a4, a5⟩ := n
  refine ⟨σ2, a1, a2.trans e1, a3.trans e2, k.far a4 f, fun i hi => ?_⟩
  rcases a5 i hi with h1 | h1
  · exact f i h1
  · exact .inr (Nat.le_trans k.size h1)
theorem NextS.after (b : Below w.heap.size w w1) (n : NextS w1 base σ s' w') : NextS w base σ s' w' := n.from_ rfl rfl (Kept.of_below b _) fun _ hk => .inl hk
theorem NextS.then (n : NextS w base σ s' w1) (b : Below w1.heap.size w1 w') : NextS w base σ s' w' := by
  obtain ⟨σ2, a1, a2, a3, a4, a5⟩ := n
  exact ⟨σ2, a1.below b, a2, a3, a4.trans (Kept.of_below b _), a5⟩
/-- Parts apart from those that a change touches. -/
theorem StoOK.apart (h : StoOK w base σ s) {p q : Part} (hpq : p ≠ q) : ∀ k, σ.foot p k → ¬ σ.foot q k := fun k h1 h2 => hpq (h.ap p q k h1 h2)
theorem RecOK.all {w w' : World} {F G : Nat → Prop} {z : RecR} (h : RecOK w F z) (k : Kept F w w') (hG : ∀ k, G k → F k ∨ w.heap.size ≤ k) : RecOK w' G z := h.next k fun i hi hg => (hG i hg).elim id fun q => absurd hi (by omega)
/-- The log was changed. -/
theorem StoOK.log {p' : PJ} {S : Dsk} (h : StoOK w base σ s) (n : NextJ w base σ.j p' S w') : NextS w base σ { s with p := p', d := S } w' := by
  obtain ⟨j', n1, n2, n3, ⟨n4, n5⟩, n6, n7, n8, n9⟩ := n
  have kf : ∀ {p : Part}, p ≠ .log → ∀ k, σ.foot p k → ¬ σ.j.foot k := fun hp k h1 h2 => hp (h.ap _ .log k h1 h2)
  have kb : ∀ {p : Part} (k : Nat), p ≠ .log → σ.foot p k → w'.heap[k]? = w.heap[k]? := fun k hp h1 => n6.block k (h.lt _ k h1) (kf hp k h1)
  have ha : ∀ k, σ.j.foot k → σ.all k := fun k hk => ⟨.log, hk⟩
  have hs : ∀ p, p ≠ .log → ∀ k, StoL.foot { σ with j := j' } p k → σ.foot p k := fun p hp k hk => by cases p <;> first | exact hk | exact absurd rfl hp
  have hall : ∀ k, StoL.all { σ with j := j' } k → StoL.foot { σ with j := j' } .log k ∨ σ.all k := fun k ⟨p, hk⟩ => by
    by_cases e : p = .log
    · subst e; exact .inl hk
    · exact .inr ⟨p, hs p e k hk⟩
  refine ⟨{ σ with j := j' }, ⟨?_, n1, h.fr.kept n6 (kf (p := .free) (by decide)), h.nt.of_block (kb (p := .notes) _ (by decide) rfl), h.sl.of_block (kb (p := .slices) _ (by decide) rfl), own_frame h.mk_ fun k hv => kb (p := .marks) k (by decide) hv, ?_, fun z hz => ?_, fun k hk => ?_, n9, n4.trans h.sz, n5.trans h.ll, h.cnt, fun k hk => Nat.lt_of_lt_of_le (h.xl k hk) n6.size⟩, rfl, n3, n6.mono fun k _ => ha k, fun k hk => ?_⟩
  · have e : StoL.cells { σ with j := j' } s.epoch s.puts = σ.cells s.epoch s.puts := by unfold StoL.cells; simp only [n2, n3]
    show Blk w' σ.B _ (StoL.cells { σ with j := j' } s.epoch s.puts)
    rw [e]
    exact (kb (p := .box) _ (by decide) rfl).trans h.bx
  · exact h.ap.change .log h.lt hs n7
  · have h1 := n8 (fun k => σ.all k ∨ s.X k) (fun k hk => hk.elim (fun q => h.all_lt q) (h.xl k)) h.ba z hz
    exact (h1.cross (n1.ok.body z hz)).mono fun k _ hk => hk.elim (fun q => (hall k q).elim .inr fun q => .inl (.inl q)) fun q => .inl (.inr q)
  · exact (hall k hk).elim (fun q => (n1.ok.foot_lt q).1) (h.lo k)
  · exact (hall k hk).elim (fun q => (n7 k q).imp (ha k) id) .inl
/-- The free sectors were changed. -/
theorem StoOK.free {Fr : Nat → Prop} (h : StoOK w base σ s) (n : NextX w base 128 512 σ.x Fr w') : NextS w base σ { s with fr := Fr } w' := by
  obtain ⟨x', n1, n2, n6, n7⟩ := n
  have kf : ∀ {p : Part}, p ≠ .free → ∀ k, σ.foot p k → ¬ σ.x.foot k := fun hp k h1 h2 => hp (h.ap _ .free k h1 h2)
  have kb : ∀ {p : Part} (k : Nat), p ≠ .free → σ.foot p k → w'.heap[k]? = w.heap[k]? := fun k hp h1 => n6.block k (h.lt _ k h1) (kf hp k h1)
  have ha : ∀ k, σ.x.foot k → σ.all k := fun k hk => ⟨.free, hk⟩
  have hs : ∀ p, p ≠ .free → ∀ k, StoL.foot { σ with x := x' } p k → σ.foot p k := fun p hp k hk => by cases p <;> first | exact hk | exact absurd rfl hp
  have hall : ∀ k, StoL.all { σ with x := x' } k → StoL.foot { σ with x := x' } .free k ∨ σ.all k := fun k ⟨p, hk⟩ => by
    by_cases e : p = .free
    · subst e; exact .inl hk
    · exact .inr ⟨p, hs p e k hk⟩
  refine ⟨{ σ with x := x' }, ⟨?_, h.lg.kept n6 (kf (p := .log) (by decide)) fun z hz => (h.bo z hz).mono fun k _ hk => ha k hk, n1, h.nt.of_block (kb (p := .notes) _ (by decide) rfl), h.sl.of_block (kb (p := .slices) _ (by decide) rfl), own_frame h.mk_ fun k hv => kb (p := .marks) k (by decide) hv, ?_, fun z hz => ?_, fun k hk => ?_, h.dk, h.sz, h.ll, h.cnt, fun k hk => Nat.lt_of_lt_of_le (h.xl k hk) n6.size⟩, rfl, rfl, n6.mono fun k _ => ha k, fun k hk => ?_⟩
  · have e : StoL.cells { σ with x := x' } s.epoch s.puts = σ.cells s.epoch s.puts := by unfold StoL.cells; simp only [n2]
    show Blk w' σ.B _ (StoL.cells { σ with x := x' } s.epoch s.puts)
    rw [e]
    exact (kb (p := .box) _ (by decide) rfl).trans h.bx
  · exact h.ap.change .free h.lt hs n7
  · exact (h.ba z hz).all (n6.mono fun k _ hk => .inl (ha k hk)) fun k hk => hk.elim (fun q => ((hall k q).elim (fun q => (n7 k q).imp (ha k) id) .inl).imp .inl id) fun q => .inl (.inr q)
  · exact (hall k hk).elim (fun q => (n1.foot_lt q).1) (h.lo k)
  · exact (hall k hk).elim (fun q => (n7 k q).imp (ha k) id) .inl
/-- A map was changed, or the struct's numbers: no block is new. -/
theorem StoOK.still (h : StoOK w base σ s) {p0 : Part} (hp0 : p0 ≠ .log) (k0 : Kept (σ.foot p0) w w') {nn mn : Nat} {st : St} {epoch puts many : Nat} (hc : nn + mn + st.marks.length ≤ many)
    (bx : Blk w' σ.B 99 (σ.cells epoch puts)) (fr : p0 ≠ .free) (nt : MapV w' 2 σ.N nn (encN st.notes)) (sl : MapV w' 40 σ.M mn (encS st.sl)) (mk : w'.ownsRow base 9 1 σ.v st.marks.length (st.marks.map txV)) :
    NextS w base σ { s with st := st, epoch := epoch, puts := puts, many := many } w' := by
  have ha : ∀ k, σ.foot p0 k → σ.all k := fun k hk => ⟨p0, hk⟩
  have kf : ∀ {p : Part}, p ≠ p0 → ∀ k, σ.foot p k → ¬ σ.foot p0 k := fun hp k h1 h2 => hp (h.ap _ p0 k h1 h2)
  refine ⟨{ σ with nn := nn, mn := mn }, ⟨bx, h.lg.kept k0 (kf (p := .log) (Ne.symm hp0)) fun z hz => (h.bo z hz).mono fun k _ hk => ha k hk, h.fr.kept k0 (kf (p := .free) (Ne.symm fr)), nt, sl, mk, h.ap, fun z hz => ?_, h.lo, h.dk, h.sz, h.ll, hc, fun k hk => Nat.lt_of_lt_of_le (h.xl k hk) k0.size⟩, rfl, rfl, k0.mono fun k _ => ha k, fun k hk => .inl hk⟩
  exact (h.ba z hz).all (k0.mono fun k _ hk => .inl (ha k hk)) fun k hk => .inl hk
theorem StoOK.blk (h : StoOK w base σ s) {p p0 : Part} (hp : p ≠ p0) (k0 : Kept (σ.foot p0) w w') {k : Nat} (hk : σ.foot p k) : w'.heap[k]? = w.heap[k]? := k0.block k (h.lt p k hk) (h.apart hp k hk)
theorem grown_kept {g : Nat} (hg : w.grownBy w' (some g)) : Kept (fun k => k = g) w w' := (Kept.refl _ w).grown hg fun _k hk => .inl (Option.some.inj hk).symm
/-- The notes were changed. -/
theorem StoOK.notes (h : StoOK w base σ s) {nn many : Nat} (hc : nn + σ.mn + s.st.marks.length ≤ many) {f : Nat → Option (List UInt8)} (n : MapV w' 2 σ.N nn (encN f)) (hg : w.grownBy w' (some σ.N)) : NextS w base σ { s with st := { s.st with notes := f }, many := many } w' := by
  have k0 : Kept (σ.foot .notes) w w' := grown_kept hg
  exact h.still (p0 := .notes) (by decide) k0 hc ((h.blk (p := .box) (by decide) k0 rfl).trans h.bx) (by decide) n (h.sl.of_block (h.blk (p := .slices) (by decide) k0 rfl)) (own_frame h.mk_ fun k hv => h.blk (p := .marks) (by decide) k0 hv)
/-- The slices were changed. -/
theorem StoOK.slices (h : StoOK w base σ s) {mn many : Nat} (hc : σ.nn + mn + s.st.marks.length ≤ many) {f : Nm → Option Slot} (n : MapV w' 40 σ.M mn (encS f)) (hg : w.grownBy w' (some σ.M)) : NextS w base σ { s with st := { s.st with sl := f }, many := many } w' := by
  have k0 : Kept (σ.foot .slices) w w' := grown_kept hg
  exact h.still (p0 := .slices) (by decide) k0 hc ((h.blk (p := .box) (by decide) k0 rfl).trans h.bx) (by decide) (h.nt.of_block (h.blk (p := .notes) (by decide) k0 rfl)) n (own_frame h.mk_ fun k hv => h.blk (p := .marks) (by decide) k0 hv)
/-- The struct's numbers were changed. -/
theorem StoOK.box (h : StoOK w base σ s) {epoch puts : Nat} (k0 : Kept (fun k => k = σ.B) w w') (b : Blk w' σ.B 99 (σ.cells epoch puts)) : NextS w base σ { s with epoch := epoch, puts := puts } w' := by
  have k0 : Kept (σ.foot .box) w w' := k0
  exact h.still (p0 := .box) (by decide) k0 h.cnt b (by decide) (h.nt.of_block (h.blk (p := .notes) (by decide) k0 rfl)) (h.sl.of_block (h.blk (p := .slices) (by decide) k0 rfl)) (own_frame h.mk_ fun k hv => h.blk (p := .marks) (by decide) k0 hv)
/-- A mark was put behind. -/
theorem StoOK.marks (h : StoOK w base σ s) {v : Value} {ms : List (List UInt8)} {many : Nat} (hc : σ.nn + σ.mn + ms.length ≤ many) (k0 : Kept (fun k => k = σ.B ∨ σ.v.ownBlock = some k) w w') (b : Blk w' σ.B 99 (StoL.cells { σ with v := v } s.epoch s.puts)) (o : w'.ownsRow base 9 1 v ms.length (ms.map txV)) (hv : ∀ k, v.ownBlock = some k → σ.v.ownBlock = some k ∨ w.heap.size ≤ k) :
    NextS w base σ { s with st := { s.st with marks := ms }, many := many } w' := by
  have ha : ∀ k, (k = σ.B ∨ σ.v.ownBlock = some k) → σ.all k := fun k hk => hk.elim (fun q => ⟨.box, q⟩) fun q => ⟨.marks, q⟩
  have kf : ∀ {p : Part}, p ≠ .box → p ≠ .marks → ∀ k, σ.foot p k → ¬ (k = σ.B ∨ σ.v.ownBlock = some k) := fun hp hq k h1 h2 => h2.elim (fun q => hp (h.ap _ .box k h1 q)) fun q => hq (h.ap _ .marks k h1 q)
  have kb : ∀ {p : Part} (k : Nat), p ≠ .box → p ≠ .marks → σ.foot p k → w'.heap[k]? = w.heap[k]? := fun k hp hq h1 => k0.block k (h.lt _ k h1) (kf hp hq k h1)
  have hs : ∀ p, p ≠ .marks → ∀ k, StoL.foot { σ with v := v } p k → σ.foot p k := fun p hp k hk => by cases p <;> first | exact hk | exact absurd rfl hp
  have hall : ∀ k, StoL.all { σ with v := v } k → StoL.foot { σ with v := v } .marks k ∨ σ.all k := fun k ⟨p, hk⟩ => by
    by_cases e : p = .marks
    · subst e; exact .inl hk
    · exact .inr ⟨p, hs p e k hk⟩
  have hn : ∀ k, StoL.all { σ with v := v } k → σ.all k ∨ w.heap.size ≤ k := fun k hk => (hall k hk).elim (fun q => (hv k q).imp (fun r => ⟨.marks, r⟩) id) .inl
  refine ⟨{ σ with v := v }, ⟨b, h.lg.kept k0 (kf (p := .log) (by decide) (by decide)) fun z hz => (h.bo z hz).mono fun k _ hk => ha k hk, h.fr.kept k0 (kf (p := .free) (by decide) (by decide)), h.nt.of_block (kb (p := .notes) _ (by decide) (by decide) rfl), h.sl.of_block (kb (p := .slices) _ (by decide) (by decide) rfl), o, ?_, fun z hz => ?_, fun k hk => ?_, h.dk, h.sz, h.ll, hc, fun k hk => Nat.lt_of_lt_of_le (h.xl k hk) k0.size⟩, rfl, rfl, k0.mono fun k _ => ha k, hn⟩
  · exact h.ap.change .marks h.lt hs hv
  · exact (h.ba z hz).all (k0.mono fun k _ hk => .inl (ha k hk)) fun k hk => hk.elim (fun q => (hn k q).imp .inl id) fun q => .inl (.inr q)
  · exact (hall k hk).elim (fun q => (o.lt k q).1) (h.lo k)
/-- Other blocks of its user's. -/
theorem StoOK.rex (h : StoOK w base σ s) {X : Nat → Prop} (hX : ∀ z ∈ σ.j.rs, RecOK w X z) (hl : ∀ k, X k → k < w.heap.size) : StoOK w base σ { s with X := X } :=
  { h with ba := fun z hz => ((h.bo z hz).cross (hX z hz)), xl := hl }
end
end Go.Proofs.YtendnkklbeiegaaGreatDoor
