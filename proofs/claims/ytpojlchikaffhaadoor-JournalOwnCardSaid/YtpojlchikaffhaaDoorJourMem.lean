/-
  How a log in two halves lies in memory: its struct, its disk, its row of records, their bytes.
-/
import Derived.Test.YtpojlchikaffhaaDoorPagePut
import Derived.Test.YtpojlchikaffhaaDoorJourPlain
namespace Go.Proofs.YtpojlchikaffhaaDoor
open Go.RowKit DiskP PageP JourP

theorem RVF.next {w w' : World} {F G : Nat → Prop} {A : Option Addr} {vs : List Value} (h : RVF w F A vs) (hk : Kept F w w') (hG : ∀ k, k < w.heap.size → G k → F k) : RVF w' G A vs := fun hne => by
  obtain ⟨b, off, e, h1, h2, h3⟩ := h hne
  exact ⟨b, off, e, Nat.lt_of_lt_of_le h1 hk.size, fun g => h2 (hG b h1 g), fun j v hj => (World.cell?_of_block (w := w) (hk.block b h1 h2)).trans (h3 j v hj)⟩
theorem own_rvf {w : World} {N n c : Nat} {e : TypeId} {F : Nat → Prop} {A : Option Addr} {xs : List Value} (h : w.ownsRow N e 1 (.slice A n c) n xs) (hF : ∀ k, F k → k < N ∨ w.heap.size ≤ k) : RVF w F A xs := fun hne => by
  obtain ⟨b, off, e, h1, h2⟩ := RV.of_own h hne
  subst e
  have := h.lt b rfl
  exact ⟨b, off, rfl, h1, fun hf => by rcases hF b hf with h3 | h3 <;> omega, h2⟩
theorem drewN_below (w : World) (q : Nat) : Below w.heap.size w (w.drewN q) := ⟨rfl, rfl, rfl, Nat.le_refl _, fun _ _ => rfl⟩
/-- A record, and where its bytes lie. -/
structure RecR where
  kind : UInt8
  A : Option Addr
  cap : Nat
  body : List UInt8
def RecR.cells (r : RecR) : List Value := [.int .u8 (r.kind.toNat : Int), .slice r.A r.body.length r.cap]
def RecR.abs (r : RecR) : Rec := ⟨r.kind, r.body⟩
def rC (l : List RecR) : List Value := l.flatMap RecR.cells
theorem rC_len (l : List RecR) : (rC l).length = l.length * 2 := by
  induction l with
  | nil => rfl
  | cons a l ih => unfold rC at ih ⊢; rw [List.flatMap_cons, List.length_append, ih, List.length_cons, show a.cells.length = 2 from rfl]; omega
theorem rC_append (a b : List RecR) : rC (a ++ b) = rC a ++ rC b := by simp [rC]
theorem rC_get (l : List RecR) (k i : Nat) (hi : i < 2) : (rC l)[k * 2 + i]? = (l[k]?).bind fun a => a.cells[i]? := by
  induction l generalizing k with
  | nil => simp [rC]
  | cons a l ih =>
    rw [show rC (a :: l) = a.cells ++ rC l by simp [rC]]
    cases k with
    | zero => rw [List.getElem?_append_left (by show 0 * 2 + i < 2; omega)]; simp
    | succ k =>
      rw [List.getElem?_append_right (by show 2 ≤ (k + 1) * 2 + i; omega), show (k + 1) * 2 + i - a.cells.length = k * 2 + i by show (k + 1) * 2 + i - 2 = _; omega, ih k]
      simp
theorem rC_one (l : List RecR) : ∀ u ∈ rC l, u.oneCell' = true := by
  intro u hu
  simp only [rC, List.mem_flatMap] at hu
  obtain ⟨a, _, hu⟩ := hu
  simp only [RecR.cells, List.mem_cons, List.not_mem_nil, or_false] at hu
  rcases hu with rfl | rfl <;> rfl
/-- A record's bytes can be read, apart from the blocks F. -/
structure RecOK (w : World) (F : Nat → Prop) (x : RecR) : Prop where
  rd : RVF w F x.A (cB x.body)
  cap : x.body.length ≤ x.cap
  c63 : x.cap ≤ 9223372036854775807
theorem RecOK.kept {w w' : World} {F G : Nat → Prop} {x : RecR} (h : RecOK w F x) (hk : Kept G w w') (hG : ∀ k, G k → F k) : RecOK w' F x := ⟨h.rd.kept (hk.mono fun k _ => hG k), h.cap, h.c63⟩
theorem RecOK.next {w w' : World} {F G : Nat → Prop} {x : RecR} (h : RecOK w F x) (hk : Kept F w w') (hG : ∀ k, k < w.heap.size → G k → F k) : RecOK w' G x := ⟨h.rd.next hk hG, h.cap, h.c63⟩
theorem RecOK.mono {w : World} {F G : Nat → Prop} {x : RecR} (h : RecOK w F x) (hG : ∀ k, k < w.heap.size → G k → F k) : RecOK w G x := ⟨h.rd.mono hG, h.cap, h.c63⟩
theorem RecOK.below {w w' : World} {F : Nat → Prop} {x : RecR} (h : RecOK w F x) (b : Below w.heap.size w w') : RecOK w' F x := h.kept (Kept.of_below b F) fun _ => id
theorem RVF.cross {w w' : World} {F G : Nat → Prop} {A : Option Addr} {vs : List Value} (h : RVF w F A vs) (k : RVF w' G A vs) : RVF w' (fun i => F i ∨ G i) A vs := fun hne => by
  obtain ⟨b, off, e, _, nf, _⟩ := h hne
  obtain ⟨b', off', e', h1, ng, hc⟩ := k hne
  rw [e] at e'
  injection e' with e'
  injection e' with e1 e2
  subst e1 e2
  exact ⟨b, off, e, h1, fun hf => hf.elim nf ng, hc⟩
theorem RecOK.cross {w w' : World} {F G : Nat → Prop} {x : RecR} (h : RecOK w F x) (k : RecOK w' G x) : RecOK w' (fun i => F i ∨ G i) x := ⟨h.rd.cross k.rd, h.cap, h.c63⟩
/-- A row of records of the call's own, apart from the blocks F. -/
structure RowR (w : World) (base : Nat) (F : Nat → Prop) (v : Value) (rs : List RecR) : Prop where
  own : w.ownsRow base 40 2 v rs.length (rC rs)
  ks : ∀ x ∈ rs, RecOK w (fun k => v.ownBlock = some k ∨ F k) x
theorem RowR.nil (w : World) (base : Nat) (F : Nat → Prop) : RowR w base F (.slice none 0 0) [] := ⟨World.ownsRow_nil _ _ _ _, fun x hx => by simp at hx⟩
theorem RowR.kept {w w' : World} {base : Nat} {F G : Nat → Prop} {v : Value} {rs : List RecR} (h : RowR w base F v rs) (hk : Kept G w w') (hG : ∀ k, G k → F k) (hv : ∀ k, v.ownBlock = some k → ¬ G k) : RowR w' base F v rs :=
  ⟨own_frame h.own fun k hkv => hk.block k (h.own.lt k hkv).2 (hv k hkv), fun x hx => (h.ks x hx).kept hk fun k hg => .inr (hG k hg)⟩
theorem RowR.below {w w' : World} {base : Nat} {F : Nat → Prop} {v : Value} {rs : List RecR} (h : RowR w base F v rs) (b : Below w.heap.size w w') : RowR w' base F v rs :=
  ⟨own_below h.own b fun k hk => (h.own.lt k hk).2, fun x hx => (h.ks x hx).below b⟩
theorem RowR.apart {w : World} {base : Nat} {F G : Nat → Prop} {v : Value} {rs : List RecR} (h : RowR w base F v rs) (hG : ∀ k, k < w.heap.size → G k → F k) : RowR w base G v rs :=
  ⟨h.own, fun x hx => (h.ks x hx).mono fun k hk hg => hg.imp id (hG k hk)⟩
/-- Where a record of a row lies. -/
theorem rec_cells {w : World} {base : Nat} {F : Nat → Prop} {v : Value} {rs : List RecR} (h : RowR w base F v rs) {k : Nat} {x : RecR} (hk : rs[k]? = some x) : ∃ g c, v = .slice (some ⟨g, 0, none⟩) rs.length c ∧ base ≤ g ∧ g < w.heap.size ∧
    w.cell? ⟨g, k * 2, none⟩ = some (.int .u8 (x.kind.toNat : Int)) ∧ w.cell? ⟨g, k * 2 + 1, none⟩ = some (.slice x.A x.body.length x.cap) := by
  have hlt := (List.getElem?_eq_some_iff.1 hk).1
  rcases h.own.2 with ⟨_, h0⟩ | ⟨g, cap, cur, rfl, hb, hh, hnc, _⟩
  · omega
  · have e0 := rC_get rs k 0 (by omega)
    have e1 := rC_get rs k 1 (by omega)
    rw [hk] at e0 e1
    have c0 := h.own.cells (g := g) rfl (k * 2 + 0) _ e0
    have c1 := h.own.cells (g := g) rfl (k * 2 + 1) _ e1
    rw [add_zero_off] at c0 c1
    exact ⟨g, cap, rfl, hb, lt_of_block hh, c0, c1⟩
/-- A record put behind. -/
theorem RowR.pushV {w1 w3 w4 : World} {base : Nat} {F : Nat → Prop} {v v4 : Value} {rs : List RecR} {x : RecR} (h : RowR w1 base F v rs) (b3 : Below w1.heap.size w1 w3)
    (o3 : RecOK w3 (fun k => v.ownBlock = some k ∨ F k) x) (own4 : w4.ownsRow base 40 2 v4 (rs.length + 1) (rC rs ++ x.cells)) (gr : w3.grownBy w4 v.ownBlock) (hv : v4.ownBlock = v.ownBlock ∨ v4.ownBlock = some w3.heap.size) : RowR w4 base F v4 (rs ++ [x]) := by
  have K : Kept (fun k => v.ownBlock = some k) w1 w4 := (Kept.of_below b3 _).trans ((Kept.refl _ w3).grown gr (fun k hk => .inl hk))
  have K3 : Kept (fun k => v.ownBlock = some k) w3 w4 := (Kept.refl _ w3).grown gr (fun k hk => .inl hk)
  have hsz := b3.size
  refine ⟨by simp only [List.length_append, List.length_singleton, rC_append]; rw [show rC [x] = x.cells by simp [rC]]; exact own4, fun z hz => ?_⟩
  simp only [List.mem_append, List.mem_singleton] at hz
  rcases hz with hz | rfl
  · refine (h.ks z hz).next (K.mono fun _ _ hf => .inl hf) (fun k hk hf => ?_)
    rcases hf with hf | hf
    · rcases hv with e | e
      · rw [e] at hf; exact .inl hf
      · rw [e] at hf; injection hf with hf; omega
    · exact .inr hf
  · refine o3.next (K3.mono fun _ _ hf => .inl hf) (fun k hk hf => ?_)
    rcases hf with hf | hf
    · rcases hv with e | e
      · rw [e] at hf; exact .inl hf
      · rw [e] at hf; injection hf with hf; omega
    · exact .inr hf
/-- A record whose bytes lie in a row that was just made. -/
theorem RecOK.made {w1 w3 : World} {F : Nat → Prop} {v : Value} {base n : Nat} {e : TypeId} {xs : List Value} {x : RecR} {N : Nat} (ho : w1.ownsRow base e 2 v n xs) (hF : ∀ k, F k → k < w1.heap.size) (hN : w1.heap.size ≤ N)
    (o3 : w3.ownsRow N 5 1 (.slice x.A x.body.length x.cap) x.body.length (cB x.body)) : RecOK w3 (fun k => v.ownBlock = some k ∨ F k) x := by
  obtain ⟨_, _, hz0, hz1, hz2⟩ := own_form o3
  injection hz0 with _ _ hz3
  subst hz3
  unfold maxLen at hz2
  refine ⟨own_rvf o3 (fun k hk => ?_), hz1, by omega⟩
  rcases hk with hk | hk
  · have := (ho.lt k hk).2; exact .inl (by omega)
  · have := hF k hk; exact .inl (by omega)
/-- A row of records that is none of a log's struct nor of its disk. -/
structure KeepR (w : World) (base G : Nat) (y : Lay) (v : Value) (rs : List RecR) : Prop where
  row : RowR w base (fun k => k = G ∨ y.foot k) v rs
  gv : v.ownBlock ≠ some G
  vy : ∀ k, v.ownBlock = some k → ¬ y.foot k
theorem KeepR.below {w w' : World} {base G : Nat} {y : Lay} {v : Value} {rs : List RecR} (h : KeepR w base G y v rs) (b : Below w.heap.size w w') : KeepR w' base G y v rs := ⟨h.row.below b, h.gv, h.vy⟩
/-- Behind a call on the disk. -/
theorem KeepR.disk {w w' : World} {base G : Nat} {y y' : Lay} {v : Value} {rs : List RecR} (h : KeepR w base G y v rs) (h4 : Kept y.foot w w') (h5 : ∀ k, y'.foot k → y.foot k ∨ w.heap.size ≤ k) : KeepR w' base G y' v rs := by
  refine ⟨⟨own_frame h.row.own fun k hv => h4.block k (h.row.own.lt k hv).2 (h.vy k hv), fun x hx => (h.row.ks x hx).next (h4.mono fun k _ hf => .inr (.inr hf)) fun k hk hf => ?_⟩, h.gv, fun k hv hf => ?_⟩
  · rcases hf with hf | hf | hf
    · exact .inl hf
    · exact .inr (.inl hf)
    · rcases h5 k hf with h6 | h6
      · exact .inr (.inr h6)
      · omega
  · rcases h5 k hf with h6 | h6
    · exact h.vy k hv h6
    · have := (h.row.own.lt k hv).2; omega
/-- Behind stores into the log's struct. -/
theorem KeepR.struct {w w' : World} {base G : Nat} {y : Lay} {v : Value} {rs : List RecR} (h : KeepR w base G y v rs) (h4 : Kept (fun k => k = G) w w') : KeepR w' base G y v rs :=
  ⟨h.row.kept h4 (fun _ hk => .inl hk) (fun k hv hk => h.gv (by rw [hv]; exact congrArg some hk)), h.gv, h.vy⟩
/-- A log: its struct's block, its disk, its numbers, its row of records. -/
structure JL where
  G : Nat
  y : Lay
  from_ : Int
  half : Int
  size : Int
  use : Int
  epoch : Int
  at_ : Int
  v : Value
  rs : List RecR
def JL.cells (j : JL) : Array Value := #[.pointer (some ⟨j.y.D, 0, none⟩), .int .i64 j.from_, .int .i64 j.half, .int .i64 j.size, .int .i64 j.use, .int .i64 j.epoch, .int .i64 j.at_, j.v]
def JL.foot (j : JL) (k : Nat) : Prop := k = j.G ∨ j.v.ownBlock = some k ∨ j.y.foot k
/-- It lies in memory so. -/
structure JOK (w : World) (base : Nat) (j : JL) : Prop where
  gk : Blk w j.G 76 j.cells
  dk : DiskOK w base j.y
  kp : KeepR w base j.G j.y j.v j.rs
  bG : base ≤ j.G
  gy : ¬ j.y.foot j.G
section
variable {w w' : World} {base : Nat} {j : JL}
theorem JOK.foot_lt (h : JOK w base j) {k : Nat} (hk : j.foot k) : base ≤ k ∧ k < w.heap.size := by
  rcases hk with rfl | hk | hk
  · exact ⟨h.bG, h.gk.lt⟩
  · exact h.kp.row.own.lt k hk
  · exact h.dk.foot_lt hk
theorem JOK.below (h : JOK w base j) (b : Below w.heap.size w w') : JOK w' base j := ⟨h.gk.below b h.gk.lt, h.dk.below b, h.kp.below b, h.bG, h.gy⟩
theorem JOK.drewN (h : JOK w base j) (q : Nat) : JOK (w.drewN q) base j := h.below (drewN_below w q)
theorem JOK.c0 (h : JOK w base j) : w.cell? ⟨j.G, 0, none⟩ = some (.pointer (some ⟨j.y.D, 0, none⟩)) := h.gk.at_ rfl
theorem JOK.c1 (h : JOK w base j) : w.cell? ⟨j.G, 1, none⟩ = some (.int .i64 j.from_) := h.gk.at_ rfl
theorem JOK.c2 (h : JOK w base j) : w.cell? ⟨j.G, 2, none⟩ = some (.int .i64 j.half) := h.gk.at_ rfl
theorem JOK.c3 (h : JOK w base j) : w.cell? ⟨j.G, 3, none⟩ = some (.int .i64 j.size) := h.gk.at_ rfl
theorem JOK.c4 (h : JOK w base j) : w.cell? ⟨j.G, 4, none⟩ = some (.int .i64 j.use) := h.gk.at_ rfl
theorem JOK.c5 (h : JOK w base j) : w.cell? ⟨j.G, 5, none⟩ = some (.int .i64 j.epoch) := h.gk.at_ rfl
theorem JOK.c6 (h : JOK w base j) : w.cell? ⟨j.G, 6, none⟩ = some (.int .i64 j.at_) := h.gk.at_ rfl
theorem JOK.c7 (h : JOK w base j) : w.cell? ⟨j.G, 7, none⟩ = some j.v := h.gk.at_ rfl
/-- Behind a call on its disk. -/
theorem JOK.disk {S : Dsk} (h : JOK w base j) (n : Next w base j.y S w') : ∃ y', y'.abs = S ∧ y'.D = j.y.D ∧ JOK w' base { j with y := y' } ∧ Kept j.y.foot w w' ∧ ∀ k, y'.foot k → j.y.foot k ∨ w.heap.size ≤ k := by
  obtain ⟨y', h1, h2, h3, h4, h5⟩ := n
  refine ⟨y', h2, h3, ⟨?_, h1, h.kp.disk h4 h5, h.bG, fun hf => ?_⟩, h4, h5⟩
  · have := (h4.block _ h.gk.lt h.gy).trans h.gk
    show Blk w' j.G _ #[.pointer (some ⟨y'.D, 0, none⟩), _, _, _, _, _, _, _]
    rw [h3]
    exact this
  · rcases h5 _ hf with h6 | h6
    · exact h.gy h6
    · have := h.gk.lt; have h6' : w.heap.size ≤ j.G := h6; omega
/-- Behind stores into its struct. -/
theorem JOK.struct {j' : JL} (h : JOK w base j) (h4 : Kept (fun k => k = j.G) w w') (hg : j'.G = j.G) (hy : j'.y = j.y) (hb : Blk w' j.G 76 j'.cells) (hk : KeepR w base j.G j.y j'.v j'.rs) : JOK w' base j' := by
  refine ⟨by rw [hg]; exact hb, ?_, by rw [hg, hy]; exact hk.struct h4, by rw [hg]; exact h.bG, by rw [hg, hy]; exact h.gy⟩
  rw [hy]
  exact h.dk.kept h4 (fun k hf hk => h.gy (by rw [← hk]; exact hf))
end
end Go.Proofs.YtpojlchikaffhaaDoor
