/-
  Put and Get as calls; the size that no disk tells.
-/
import Derived.Test.YtendnkklbeiegaaGreatDoorMAL
import Derived.Test.YtendnkklbeiegaaGreatDoorMAI
import Derived.Test.YtendnkklbeiegaaGreatDoorMAJ
import Derived.Test.YtendnkklbeiegaaGreatDoorMAD
import Derived.BigQuiet
import Derived.Deep.QuietTactic
import Derived.Test.YtendnkklbeiegaaGreatDoorStep
import Derived.Test.YtendnkklbeiegaaGreatDoorExtWalk
import Derived.Laws.IdiomStrings
import Derived.Deep.RegionHeld
namespace Go.Proofs.YtendnkklbeiegaaGreatDoor
open Go.RowKit DiskP SumP PageP

theorem pput_calls (y : Lay) (at_ : Int) (kind : UInt8) (mark : Int) (b : List UInt8) (A : Option Addr) (cap : Nat) (w : World) (base : Nat) (h : DiskOK w base y) (hT : Tab w) (hb : base ≤ w.heap.size) (hR : RVF w y.foot A (cB b)) (hc : b.length ≤ cap) (hcap : cap ≤ 9223372036854775807)
    (hw : y.wp.length ≤ 1000000) (hg : 2 < base) :
    Calls Tryz.prog 66 #[.pointer (some ⟨y.D, 0, none⟩), .int .i64 at_, .int .u8 (kind.toNat : Int), .int .i64 mark, .slice A b.length cap] w (RetPut w base y (putN y.abs at_ kind b.length) (putE y.abs at_ kind b.length) (putS y.abs at_ kind mark b)) := by
  have hsz : y.abs.size = y.size := rfl
  have hof : y.abs.off = y.off := rfl
  have hll : y.abs.last.length = y.lp.length := by simp [Lay.abs]
  by_cases hno : y.abs.has at_ = false ∨ kind = 0
  · have e : putE y.abs at_ kind b.length = 1 := if_pos hno
    unfold putN putS
    rw [e]
    exact pput_arg y at_ kind mark b.length A cap w base h hno
  · have hh : y.abs.has at_ = true := by
      cases hx : y.abs.has at_
      · exact absurd (.inl hx) hno
      · rfl
    have hk : kind ≠ 0 := fun e => hno (.inr e)
    have hr : 0 ≤ at_ ∧ at_ < (y.lp.length : Int) := by
      unfold Dsk.has at hh
      rw [hll] at hh
      simpa using hh
    obtain ⟨a, rfl⟩ := Int.eq_ofNat_of_zero_le hr.1
    by_cases hfit : need y.size b.length < 1 ∨ (y.lp.length : Int) - (a : Int) < need y.size b.length
    · have e : putE y.abs (a : Int) kind b.length = 5 := by
        unfold putE
        rw [if_neg hno, hsz, hll, if_pos hfit]
      unfold putN putS
      rw [e]
      exact pput_room y (a : Int) kind mark b.length A cap w base h hr.1 hr.2 hk (by unfold fitsB; simp; omega) (by omega)
    · obtain ⟨nn, e1, e2, _⟩ := need_nat y.size b.length (by omega)
      have h19 := (need_pos (size := y.size) (bytes := b.length) (by omega)).1
      have hE : putE y.abs (a : Int) kind b.length = if y.off then 10 else 0 := by
        unfold putE
        rw [if_neg hno, hsz, hll, if_neg hfit, hof]
      refine pput_on y a kind mark b A cap w base h hT hb hR hc hcap (by omega) hk nn e1 e2 (by omega) (by omega) hw hg _ _ _ ?_
      unfold putN putS
      rw [hE, hsz, e1]
      cases y.off
      · simp
      · simp
theorem pget_arg (y : Lay) (at_ : Int) (w : World) (base : Nat) (h : DiskOK w base y) (hno : y.abs.has at_ = false) : Calls Tryz.prog 82 #[.pointer (some ⟨y.D, 0, none⟩), .int .i64 at_] w (RetGet w (1, 0, 0, [], 0)) := by
  have hl2 := h.l2
  rw [hasB_abs y at_] at hno
  have HE := Lib.hid (fun (w' : World) (hb : Below w.heap.size w w') => RetGet.no (E := 1) rfl hb)
  have B0 : ∀ q, Below w.heap.size w (w.drewN q) := fun q => ⟨rfl, rfl, rfl, Nat.le_refl _, fun _ _ => rfl⟩
  by_cases h0 : at_ < 0
  · have d0 : decide (at_ < 0) = true := decide_eq_true h0
    clear hno
    go_enter Tryz.func82, Tryz.ntmps82
    go_wp2_with fail
    refine (size_calls y w base h).mono ?_
    rintro e w1 ⟨rfl, q, rfl⟩
    go_wp2
    refine bodyPost_ret (v := .tuple #[.int .u8 0, .int .i64 0, .slice none 0 0, .int .i64 0, .int .i64 1]) (by simp [results, Tryz.results82, go_sem]) rfl (HE.out _ (B0 q))
  · have d0 : decide (at_ < 0) = false := decide_eq_false h0
    have d1 : decide ((y.lp.length : Int) ≤ at_) = true := by
      unfold hasB at hno
      simp at hno
      exact decide_eq_true (hno (by omega))
    clear hno
    go_enter Tryz.func82, Tryz.ntmps82
    go_wp2_with fail
    refine (size_calls y w base h).mono ?_
    rintro e w1 ⟨rfl, q, rfl⟩
    go_wp2
    refine bodyPost_ret (v := .tuple #[.int .u8 0, .int .i64 0, .slice none 0 0, .int .i64 0, .int .i64 1]) (by simp [results, Tryz.results82, go_sem]) rfl (HE.out _ (B0 q))
theorem pget_calls (y : Lay) (at_ : Int) (w : World) (base : Nat) (h : DiskOK w base y) (hT : Tab w) : Calls Tryz.prog 82 #[.pointer (some ⟨y.D, 0, none⟩), .int .i64 at_] w (RetGet w (getR y.abs at_)) := by
  by_cases hno : y.abs.has at_ = false
  · have e : getR y.abs at_ = (1, 0, 0, [], 0) := if_pos hno
    rw [e]
    exact pget_arg y at_ w base h hno
  · have hh : y.abs.has at_ = true := by simpa using hno
    have hll : y.abs.last.length = y.lp.length := by simp [Lay.abs]
    have hr : 0 ≤ at_ ∧ at_ < (y.lp.length : Int) := by
      unfold Dsk.has at hh
      rw [hll] at hh
      simpa using hh
    obtain ⟨a, rfl⟩ := Int.eq_ofNat_of_zero_le hr.1
    exact pget_on y a w base h hT (by omega)
theorem bstr_list (t : List UInt8) : (bstr t).toList = t := by
  rw [ByteArray.toList_eq]; rfl
theorem Tab.lt {w : World} (h : Tab w) : 2 < w.heap.size := block_lt_of_cell (h 0#32)
theorem Tab.below {w w' : World} (h : Tab w) (hb : Below w.heap.size w w') : Tab w' := h.far (Kept.of_below hb (fun _ => False)) (fun h => h)
end Go.Proofs.YtendnkklbeiegaaGreatDoor
namespace Go.Proofs.YtendnkklbeiegaaGreatDoor
open Go.RowKit DiskP PageP JourP

theorem RVF.next {w w' : World} {F G : Nat → Prop} {A : Option Addr} {vs : List Value} (h : RVF w F A vs) (hk : Kept F w w') (hG : ∀ k, k < w.heap.size → G k → F k) : RVF w' G A vs := fun hne => by
  obtain ⟨b, off, e, h1, h2, h3⟩ := h hne
  exact ⟨b, off, e, Nat.lt_of_lt_of_le h1 hk.size, fun g => h2 (hG b h1 g), fun j v hj => (World.cell?_of_block (w := w) (hk.block b h1 h2)).trans (h3 j v hj)⟩
theorem own_rvf {w : World} {N n c : Nat} {e : TypeId} {F : Nat → Prop} {A : Option Addr} {xs : List Value} (h : w.ownsRow N e 1 (.slice A n c) n xs) (hF : ∀ k, F k → k < N ∨ w.heap.size ≤ k) : RVF w F A xs := fun hne => by
  obtain ⟨b, off, e, h1, h2⟩ := RV.of_own h hne
  subst e
  have := h.lt b rfl
  exact ⟨b, off, rfl, h1, fun hf => by rcases hF b hf with h3 | h3 <;> omega, h2⟩
theorem drewN_below (w : World) (q : Nat) : Below w.heap.size w (w.drewN q) := ⟨rfl, rfl, rfl, Nat.le_refl _, fun _ _ => rfl⟩
/-- A record, and where its bytes lie. -/
structure RecR where
  kind : UInt8
  A : Option Addr
  cap : Nat
  body : List UInt8
def RecR.cells (r : RecR) : List Value := [.int .u8 (r.kind.toNat : Int), .slice r.A r.body.length r.cap]
def RecR.abs (r : RecR) : Rec := ⟨r.kind, r.body⟩
def rC (l : List RecR) : List Value := l.flatMap RecR.cells
theorem rC_len (l : List RecR) : (rC l).length = l.length * 2 := by
  induction l with
  | nil => rfl
  | cons a l ih => unfold rC at ih ⊢; rw [List.flatMap_cons, List.length_append, ih, List.length_cons, show a.cells.length = 2 from rfl]; omega
theorem rC_append (a b : List RecR) : rC (a ++ b) = rC a ++ rC b := by simp [rC]
theorem rC_get (l : List RecR) (k i : Nat) (hi : i < 2) : (rC l)[k * 2 + i]? = (l[k]?).bind fun a => a.cells[i]? := by
  induction l generalizing k with
  | nil => simp [rC]
  | cons a l ih =>
    rw [show rC (a :: l) = a.cells ++ rC l by simp [rC]]
    cases k with
    | zero => rw [List.getElem?_append_left (by show 0 * 2 + i < 2; omega)]; simp
    | succ k =>
      rw [List.getElem?_append_right (by show 2 ≤ (k + 1) * 2 + i; omega), show (k + 1) * 2 + i - a.cells.length = k * 2 + i by show (k + 1) * 2 + i - 2 = _; omega, ih k]
      simp
theorem rC_one (l : List RecR) : ∀ u ∈ rC l, u.oneCell' = true := by
  intro u hu
  simp only [rC, List.mem_flatMap] at hu
  obtain ⟨a, _, hu⟩ := hu
  simp only [RecR.cells, List.mem_cons, List.not_mem_nil, or_false] at hu
  rcases hu with rfl | rfl <;> rfl
/-- A record's bytes can be read, apart from the blocks F. -/
structure RecOK (w : World) (F : Nat → Prop) (x : RecR) : Prop where
  rd : RVF w F x.A (cB x.body)
  cap : x.body.length ≤ x.cap
  c63 : x.cap ≤ 9223372036854775807
theorem RecOK.kept {w w' : World} {F G : Nat → Prop} {x : RecR} (h : RecOK w F x) (hk : Kept G w w') (hG : ∀ k, G k → F k) : RecOK w' F x := ⟨h.rd.kept (hk.mono fun k _ => hG k), h.cap, h.c63⟩
theorem RecOK.next {w w' : World} {F G : Nat → Prop} {x : RecR} (h : RecOK w F x) (hk : Kept F w w') (hG : ∀ k, k < w.heap.size → G k → F k) : RecOK w' G x := ⟨h.rd.next hk hG, h.cap, h.c63⟩
theorem RecOK.mono {w : World} {F G : Nat → Prop} {x : RecR} (h : RecOK w F x) (hG : ∀ k, k < w.heap.size → G k → F k) : RecOK w G x := ⟨h.rd.mono hG, h.cap, h.c63⟩
theorem RecOK.below {w w' : World} {F : Nat → Prop} {x : RecR} (h : RecOK w F x) (b : Below w.heap.size w w') : RecOK w' F x := h.kept (Kept.of_below b F) fun _ => id
theorem RVF.cross {w w' : World} {F G : Nat → Prop} {A : Option Addr} {vs : List Value} (h : RVF w F A vs) (k : RVF w' G A vs) : RVF w' (fun i => F i ∨ G i) A vs := fun hne => by
  obtain ⟨b, off, e, _, nf, _⟩ := h hne
  obtain ⟨b', off', e', h1, ng, hc⟩ := k hne
  rw [e] at e'
  injection e' with e'
  injection e' with e1 e2
  subst e1 e2
  exact ⟨b, off, e, h1, fun hf => hf.elim nf ng, hc⟩
theorem RecOK.cross {w w' : World} {F G : Nat → Prop} {x : RecR} (h : RecOK w F x) (k : RecOK w' G x) : RecOK w' (fun i => F i ∨ G i) x := ⟨h.rd.cross k.rd, h.cap, h.c63⟩
/-- A row of records of the call's own, apart from the blocks F. -/
structure RowR (w : World) (base : Nat) (F : Nat → Prop) (v : Value) (rs : List RecR) : Prop where
  own : w.ownsRow base 107 2 v rs.length (rC rs)
  ks : ∀ x ∈ rs, RecOK w (fun k => v.ownBlock = some k ∨ F k) x
theorem RowR.nil (w : World) (base : Nat) (F : Nat → Prop) : RowR w base F (.slice none 0 0) [] := ⟨World.ownsRow_nil _ _ _ _, fun x hx => by simp at hx⟩
theorem RowR.kept {w w' : World} {base : Nat} {F G : Nat → Prop} {v : Value} {rs : List RecR} (h : RowR w base F v rs) (hk : Kept G w w') (hG : ∀ k, G k → F k) (hv : ∀ k, v.ownBlock = some k → ¬ G k) : RowR w' base F v rs :=
  ⟨own_frame h.own fun k hkv => hk.block k (h.own.lt k hkv).2 (hv k hkv), fun x hx => (h.ks x hx).kept hk fun k hg => .inr (hG k hg)⟩
theorem RowR.below {w w' : World} {base : Nat} {F : Nat → Prop} {v : Value} {rs : List RecR} (h : RowR w base F v rs) (b : Below w.heap.size w w') : RowR w' base F v rs :=
  ⟨own_below h.own b fun k hk => (h.own.lt k hk).2, fun x hx => (h.ks x hx).below b⟩
theorem RowR.apart {w : World} {base : Nat} {F G : Nat → Prop} {v : Value} {rs : List RecR} (h : RowR w base F v rs) (hG : ∀ k, k < w.heap.size → G k → F k) : RowR w base G v rs :=
  ⟨h.own, fun x hx => (h.ks x hx).mono fun k hk hg => hg.imp id (hG k hk)⟩
/-- Where a record of a row lies. -/
theorem rec_cells {w : World} {base : Nat} {F : Nat → Prop} {v : Value} {rs : List RecR} (h : RowR w base F v rs) {k : Nat} {x : RecR} (hk : rs[k]? = some x) : ∃ g c, v = .slice (some ⟨g, 0, none⟩) rs.length c ∧ base ≤ g ∧ g < w.heap.size ∧
    w.cell? ⟨g, k * 2, none⟩ = some (.int .u8 (x.kind.toNat : Int)) ∧ w.cell? ⟨g, k * 2 + 1, none⟩ = some (.slice x.A x.body.length x.cap) := by
  have hlt := (List.getElem?_eq_some_iff.1 hk).1
  rcases h.own.2 with ⟨_, h0⟩ | ⟨g, cap, cur, rfl, hb, hh, hnc, _⟩
  · omega
  · have e0 := rC_get rs k 0 (by omega)
    have e1 := rC_get rs k 1 (by omega)
    rw [hk] at e0 e1
    have c0 := h.own.cells (g := g) rfl (k * 2 + 0) _ e0
    have c1 := h.own.cells (g := g) rfl (k * 2 + 1) _ e1
    rw [add_zero_off] at c0 c1
    exact ⟨g, cap, rfl, hb, lt_of_block hh, c0, c1⟩
/-- A record put behind. -/
theorem RowR.pushV {w1 w3 w4 : World} {base : Nat} {F : Nat → Prop} {v v4 : Value} {rs : List RecR} {x : RecR} (h : RowR w1 base F v rs) (b3 : Below w1.heap.size w1 w3)
    (o3 : RecOK w3 (fun k => v.ownBlock = some k ∨ F k) x) (own4 : w4.ownsRow base 107 2 v4 (rs.length + 1) (rC rs ++ x.cells)) (gr : w3.grownBy w4 v.ownBlock) (hv : v4.ownBlock = v.ownBlock ∨ v4.ownBlock = some w3.heap.size) : RowR w4 base F v4 (rs ++ [x]) := by
  have K : Kept (fun k => v.ownBlock = some k) w1 w4 := (Kept.of_below b3 _).trans ((Kept.refl _ w3).grown gr (fun k hk => .inl hk))
  have K3 : Kept (fun k => v.ownBlock = some k) w3 w4 := (Kept.refl _ w3).grown gr (fun k hk => .inl hk)
  have hsz := b3.size
  refine ⟨by simp only [List.length_append, List.length_singleton, rC_append]; rw [show rC [x] = x.cells by simp [rC]]; exact own4, fun z hz => ?_⟩
  simp only [List.mem_append, List.mem_singleton] at hz
  rcases hz with hz | rfl
  · refine (h.ks z hz).next (K.mono fun _ _ hf => .inl hf) (fun k hk hf => ?_)
    rcases hf with hf | hf
    · rcases hv with e | e
      · rw [e] at hf; exact .inl hf
      · rw [e] at hf; injection hf with hf; omega
    · exact .inr hf
  · refine o3.next (K3.mono fun _ _ hf => .inl hf) (fun k hk hf => ?_)
    rcases hf with hf | hf
    · rcases hv with e | e
      · rw [e] at hf; exact .inl hf
      · rw [e] at hf; injection hf with hf; omega
    · exact .inr hf
/-- A record whose bytes lie in a row that was just made. -/
theorem RecOK.made {w1 w3 : World} {F : Nat → Prop} {v : Value} {base n : Nat} {e : TypeId} {xs : List Value} {x : RecR} {N : Nat} (ho : w1.ownsRow base e 2 v n xs) (hF : ∀ k, F k → k < w1.heap.size) (hN : w1.heap.size ≤ N)
    (o3 : w3.ownsRow N 5 1 (.slice x.A x.body.length x.cap) x.body.length (cB x.body)) : RecOK w3 (fun k => v.ownBlock = some k ∨ F k) x := by
  obtain ⟨_, _, hz0, hz1, hz2⟩ := own_form o3
  injection hz0 with _ _ hz3
  subst hz3
  unfold maxLen at hz2
  refine ⟨own_rvf o3 (fun k hk => ?_), hz1, by omega⟩
  rcases hk with hk | hk
  · have := (ho.lt k hk).2; exact .inl (by omega)
  · have := hF k hk; exact .inl (by omega)
/-- A row of records that is none of a log's struct nor of its disk. -/
structure KeepR (w : World) (base G : Nat) (y : Lay) (v : Value) (rs : List RecR) : Prop where
  row : RowR w base (fun k => k = G ∨ y.foot k) v rs
  gv : v.ownBlock ≠ some G
  vy : ∀ k, v.ownBlock = some k → ¬ y.foot k
theorem KeepR.below {w w' : World} {base G : Nat} {y : Lay} {v : Value} {rs : List RecR} (h : KeepR w base G y v rs) (b : Below w.heap.size w w') : KeepR w' base G y v rs := ⟨h.row.below b, h.gv, h.vy⟩
/-- Behind a call on the disk. -/
theorem KeepR.disk {w w' : World} {base G : Nat} {y y' : Lay} {v : Value} {rs : List RecR} (h : KeepR w base G y v rs) (h4 : Kept y.foot w w') (h5 : ∀ k, y'.foot k → y.foot k ∨ w.heap.size ≤ k) : KeepR w' base G y' v rs := by
  refine ⟨⟨own_frame h.row.own fun k hv => h4.block k (h.row.own.lt k hv).2 (h.vy k hv), fun x hx => (h.row.ks x hx).next (h4.mono fun k _ hf => .inr (.inr hf)) fun k hk hf => ?_⟩, h.gv, fun k hv hf => ?_⟩
  · rcases hf with hf | hf | hf
    · exact .inl hf
    · exact .inr (.inl hf)
    · rcases h5 k hf with h6 | h6
      · exact .inr (.inr h6)
      · omega
  · rcases h5 k hf with h6 | h6
    · exact h.vy k hv h6
    · have := (h.row.own.lt k hv).2; omega
/-- Behind stores into the log's struct. -/
theorem KeepR.struct {w w' : World} {base G : Nat} {y : Lay} {v : Value} {rs : List RecR} (h : KeepR w base G y v rs) (h4 : Kept (fun k => k = G) w w') : KeepR w' base G y v rs :=
  ⟨h.row.kept h4 (fun _ hk => .inl hk) (fun k hv hk => h.gv (by rw [hv]; exact congrArg some hk)), h.gv, h.vy⟩
/-- A log: its struct's block, its disk, its numbers, its row of records. -/
structure JL where
  G : Nat
  y : Lay
  from_ : Int
  half : Int
  size : Int
  use : Int
  epoch : Int
  at_ : Int
  v : Value
  rs : List RecR
def JL.cells (j : JL) : Array Value := #[.pointer (some ⟨j.y.D, 0, none⟩), .int .i64 j.from_, .int .i64 j.half, .int .i64 j.size, .int .i64 j.use, .int .i64 j.epoch, .int .i64 j.at_, j.v]
def JL.foot (j : JL) (k : Nat) : Prop := k = j.G ∨ j.v.ownBlock = some k ∨ j.y.foot k
/-- It lies in memory so. -/
structure JOK (w : World) (base : Nat) (j : JL) : Prop where
  gk : Blk w j.G 168 j.cells
  dk : DiskOK w base j.y
  kp : KeepR w base j.G j.y j.v j.rs
  bG : base ≤ j.G
  gy : ¬ j.y.foot j.G
section
variable {w w' : World} {base : Nat} {j : JL}
theorem JOK.foot_lt (h : JOK w base j) {k : Nat} (hk : j.foot k) : base ≤ k ∧ k < w.heap.size := by
  rcases hk with rfl | hk | hk
  · exact ⟨h.bG, h.gk.lt⟩
  · exact h.kp.row.own.lt k hk
  · exact h.dk.foot_lt hk
theorem JOK.below (h : JOK w base j) (b : Below w.heap.size w w') : JOK w' base j := ⟨h.gk.below b h.gk.lt, h.dk.below b, h.kp.below b, h.bG, h.gy⟩
theorem JOK.drewN (h : JOK w base j) (q : Nat) : JOK (w.drewN q) base j := h.below (drewN_below w q)
theorem JOK.c0 (h : JOK w base j) : w.cell? ⟨j.G, 0, none⟩ = some (.pointer (some ⟨j.y.D, 0, none⟩)) := h.gk.at_ rfl
theorem JOK.c1 (h : JOK w base j) : w.cell? ⟨j.G, 1, none⟩ = some (.int .i64 j.from_) := h.gk.at_ rfl
theorem JOK.c2 (h : JOK w base j) : w.cell? ⟨j.G, 2, none⟩ = some (.int .i64 j.half) := h.gk.at_ rfl
theorem JOK.c3 (h : JOK w base j) : w.cell? ⟨j.G, 3, none⟩ = some (.int .i64 j.size) := h.gk.at_ rfl
theorem JOK.c4 (h : JOK w base j) : w.cell? ⟨j.G, 4, none⟩ = some (.int .i64 j.use) := h.gk.at_ rfl
theorem JOK.c5 (h : JOK w base j) : w.cell? ⟨j.G, 5, none⟩ = some (.int .i64 j.epoch) := h.gk.at_ rfl
theorem JOK.c6 (h : JOK w base j) : w.cell? ⟨j.G, 6, none⟩ = some (.int .i64 j.at_) := h.gk.at_ rfl
theorem JOK.c7 (h : JOK w base j) : w.cell? ⟨j.G, 7, none⟩ = some j.v := h.gk.at_ rfl
/-- Behind a call on its disk. -/
theorem JOK.disk {S : Dsk} (h : JOK w base j) (n : Next w base j.y S w') : ∃ y', y'.abs = S ∧ y'.D = j.y.D ∧ JOK w' base { j with y := y' } ∧ Kept j.y.foot w w' ∧ ∀ k, y'.foot k → j.y.foot k ∨ w.heap.size ≤ k := by
  obtain ⟨y', h1, h2, h3, h4, h5⟩ := n
  refine ⟨y', h2, h3, ⟨?_, h1, h.kp.disk h4 h5, h.bG, fun hf => ?_⟩, h4, h5⟩
  · have := (h4.block _ h.gk.lt h.gy).trans h.gk
    show Blk w' j.G _ #[.pointer (some ⟨y'.D, 0, none⟩), _, _, _, _, _, _, _]
    rw [h3]
    exact this
  · rcases h5 _ hf with h6 | h6
    · exact h.gy h6
    · have := h.gk.lt; have h6' : w.heap.size ≤ j.G := h6; omega
/-- Behind stores into its struct. -/
theorem JOK.struct {j' : JL} (h : JOK w base j) (h4 : Kept (fun k => k = j.G) w w') (hg : j'.G = j.G) (hy : j'.y = j.y) (hb : Blk w' j.G 168 j'.cells) (hk : KeepR w base j.G j.y j'.v j'.rs) : JOK w' base j' := by
  refine ⟨by rw [hg]; exact hb, ?_, by rw [hg, hy]; exact hk.struct h4, by rw [hg]; exact h.bG, by rw [hg, hy]; exact h.gy⟩
  rw [hy]
  exact h.dk.kept h4 (fun k hf hk => h.gy (by rw [← hk]; exact hf))
end
end Go.Proofs.YtendnkklbeiegaaGreatDoor
namespace Go.Proofs.YtendnkklbeiegaaGreatDoor.JourP
open DiskP PageP

/-- A log in plain words: from which sector on it lies, a half's sectors, which half is in use, its epoch, its records, how many of them last. -/
structure PJ where
  from_ : Nat
  half : Nat
  use : Nat
  e : Nat
  rs : List Rec
  lasts : Nat
def PJ.b (p : PJ) : Nat := p.from_ + p.use * p.half
def PJ.o (p : PJ) : Nat := p.from_ + (1 - p.use) * p.half
def PJ.add (p : PJ) (r : Rec) : PJ := { p with rs := p.rs ++ [r] }
def PJ.sync (p : PJ) : PJ := { p with lasts := p.rs.length }
def PJ.turned (p : PJ) (ks : List Rec) : PJ := { p with use := 1 - p.use, e := p.e + 1, rs := ks, lasts := ks.length }
def longB (ks : List Rec) : Bool := ks.any fun r => decide (4000 < r.body.length)
/-- What Add tells, and Turn, and Left. -/
def addE (size : Nat) (p : PJ) (r : Rec) : Int := if 4000 < r.body.length then 1 else if p.half < 1 + sumNd size p.rs + r.nd size then 5 else 0
def turnE (size : Nat) (p : PJ) (ks : List Rec) : Int := if longB ks = true then 1 else if p.half < 1 + sumNd size ks then 5 else 0
def leftN (size : Nat) (p : PJ) : Int := (p.half : Int) - (1 + sumNd size p.rs : Nat)
/-- The disk behind an Add that fits, behind an Add, behind a Turn. -/
def addD (p : PJ) (d : Dsk) (r : Rec) : Dsk := putS d ((p.b + pos d.size p.rs p.rs.length : Nat) : Int) 82 (recMark p.e p.rs.length) r.bytes
def addDS (size : Nat) (p : PJ) (d : Dsk) (r : Rec) : Dsk := if addE size p r = 0 then addD p d r else d
def turnDS (size : Nat) (p : PJ) (d : Dsk) (ks : List Rec) : Dsk := if turnE size p ks = 0 then turnD d p.o p.half (p.e + 1) ks else d
def PJ.addS (p : PJ) (size : Nat) (r : Rec) : PJ := if addE size p r = 0 then p.add r else p
def PJ.turnS (p : PJ) (size : Nat) (ks : List Rec) : PJ := if turnE size p ks = 0 then p.turned ks else p
theorem PJ.swap {p : PJ} (h : p.use ≤ 1) (ks : List Rec) : (p.turned ks).b = p.o ∧ (p.turned ks).o = p.b := by
  unfold PJ.b PJ.o PJ.turned
  refine ⟨rfl, ?_⟩
  show p.from_ + (1 - (1 - p.use)) * p.half = p.from_ + p.use * p.half
  rw [show 1 - (1 - p.use) = p.use by omega]
/-- Each record needs a sector, at least. -/
theorem nd_pos {size : Nat} (h1 : 19 ≤ size) (h2 : size ≤ 4096) {r : Rec} (hr : r.body.length ≤ 1000000) : 1 ≤ r.nd size := by
  have := r.bytes_len
  exact (nd_eq h1 h2 (by omega)).2
theorem len_le_sum {size : Nat} (h1 : 19 ≤ size) (h2 : size ≤ 4096) : ∀ (rs : List Rec), (∀ r ∈ rs, r.body.length ≤ 4000) → rs.length ≤ sumNd size rs
  | [], _ => Nat.zero_le _
  | r :: rs, h => by
    have h3 := nd_pos h1 h2 (r := r) (by have := h r (by simp); omega)
    have h4 := len_le_sum h1 h2 rs fun x hx => h x (by simp [hx])
    have e : sumNd size (r :: rs) = r.nd size + sumNd size rs := by simp [sumNd]
    rw [e, List.length_cons]
    omega
end Go.Proofs.YtendnkklbeiegaaGreatDoor.JourP
namespace Go.Proofs.YtendnkklbeiegaaGreatDoor
open Go.RowKit DiskP PageP JourP

/-- A log that stands, and what it is in plain words. -/
structure JLog (w : World) (base : Nat) (j : JL) (p : PJ) : Prop where
  ok : JOK w base j
  inv : Inv j.y.abs p.b p.o p.half p.e p.rs p.lasts
  u : p.use ≤ 1
  ffrom : j.from_ = (p.from_ : Int)
  fhalf : j.half = (p.half : Int)
  fsize : j.size = (j.y.size : Int)
  fuse : j.use = (p.use : Int)
  fe : j.epoch = (p.e : Int)
  fat : j.at_ = ((p.b + pos j.y.size p.rs p.rs.length : Nat) : Int)
  frs : j.rs.map RecR.abs = p.rs
section
variable {w w' : World} {base : Nat} {j : JL} {p : PJ}
theorem JLog.below (h : JLog w base j p) (b : Below w.heap.size w w') : JLog w' base j p := { h with ok := h.ok.below b }
theorem JLog.len (h : JLog w base j p) : j.rs.length = p.rs.length := by have := congrArg List.length h.frs; simpa using this
theorem JLog.sizes (h : JLog w base j p) : 19 ≤ j.y.size ∧ j.y.size ≤ 4096 ∧ j.y.lp.length ≤ 65536 ∧ p.b + p.half ≤ j.y.lp.length ∧ p.o + p.half ≤ j.y.lp.length ∧ 1 + sumNd j.y.size p.rs ≤ p.half ∧ p.rs.length ≤ p.half ∧ 2 ≤ p.half := by
  have hb := h.inv.base
  have hl : j.y.abs.last.length = j.y.lp.length := by simp [Lay.abs]
  have h1 : 19 ≤ j.y.size := hb.s19
  have h2 : j.y.size ≤ 4096 := hb.s40
  have h3 := h.ok.dk.l2
  have h4 := hb.lb
  have h5 := hb.lo
  have h6 : 1 + sumNd j.y.size p.rs ≤ p.half := hb.room
  have h7 := len_le_sum h1 h2 p.rs hb.small
  have h8 := hb.h2
  rw [hl] at h4 h5
  omega
end
theorem Lay.last_len {y y' : Lay} {d : Dsk} (h : y'.abs = d) (hl : d.last.length = y.abs.last.length) : y'.lp.length = y.lp.length := by
  have e1 : y'.abs.last.length = y'.lp.length := by simp [Lay.abs]
  have e2 : y.abs.last.length = y.lp.length := by simp [Lay.abs]
  rw [← e1, ← e2, h, hl]
/-- The bodies of the records j' lie apart from whatever old blocks those of j did. -/
def ApartR (w : World) (j j' : JL) (w' : World) : Prop := ∀ X : Nat → Prop, (∀ k, X k → k < w.heap.size) → (∀ z ∈ j.rs, RecOK w X z) → ∀ z ∈ j'.rs, RecOK w' X z
theorem JOK.body {w : World} {base : Nat} {j : JL} (h : JOK w base j) : ∀ z ∈ j.rs, RecOK w j.foot z := fun z hz => (h.kp.row.ks z hz).mono fun k _ hk => by
  rcases hk with hk | hk | hk
  · exact .inr (.inl hk)
  · exact .inl hk
  · exact .inr (.inr hk)
/-- Bodies that stay. -/
theorem RecOK.stay {w w' : World} {X : Nat → Prop} {base : Nat} {j : JL} {z : RecR} (h : JOK w base j) (hz : z ∈ j.rs) (hx : RecOK w X z) (hk : Kept j.foot w w') : RecOK w' X z :=
  (hx.cross (h.body z hz)).next (hk.mono fun _k _ hf => .inr hf) fun _k _ hf => .inl hf
/-- What a call makes of a log: the same struct, which stands as p' says; all else that was there stands. -/
def NextJ (w : World) (base : Nat) (j : JL) (p' : PJ) (S : Dsk) (w' : World) : Prop :=
  ∃ j', JLog w' base j' p' ∧ j'.G = j.G ∧ j'.y.D = j.y.D ∧ (j'.y.size = j.y.size ∧ j'.y.lp.length = j.y.lp.length) ∧ Kept j.foot w w' ∧ (∀ k, j'.foot k → j.foot k ∨ w.heap.size ≤ k) ∧ ApartR w j j' w' ∧ j'.y.abs = S
theorem NextJ.same_below {w w' : World} {base : Nat} {j : JL} {p : PJ} (h : JLog w base j p) (b : Below w.heap.size w w') : NextJ w base j p j.y.abs w' := ⟨j, h.below b, rfl, rfl, ⟨rfl, rfl⟩, Kept.of_below b _, fun _ hk => .inl hk, fun _ _ h z hz => (h z hz).below b, rfl⟩
end Go.Proofs.YtendnkklbeiegaaGreatDoor
namespace Go.Proofs.YtendnkklbeiegaaGreatDoor
open Go.RowKit DiskP PageP JourP

theorem info_rec : (Tryz.prog.info? 107).map (fun i => (i.zero, i.size, i.bytes)) = some (some (.agg #[.int .u8 0, .slice none 0 0]), 2, 32) := by kernel_rfl
theorem el_rec : El Tryz.prog 104 107 (.agg #[.int .u8 0, .slice none 0 0]) 2 32 := ⟨info_parts info_rec, Tryz.underlying104, rfl, by decide⟩
theorem rec_elem {w : World} {A : Option Addr} {rs : List RecR} (h : RV w A (rC rs)) {k : Nat} {x : RecR} (hk : rs[k]? = some x) : ∃ b off, A = some ⟨b, off, none⟩ ∧ b < w.heap.size ∧ w.cell? ⟨b, off + k * 2, none⟩ = some (.int .u8 (x.kind.toNat : Int)) ∧ w.cell? ⟨b, off + k * 2 + 1, none⟩ = some (.slice x.A x.body.length x.cap) := by
  have e0 := rC_get rs k 0 (by omega)
  have e1 := rC_get rs k 1 (by omega)
  rw [hk] at e0 e1
  obtain ⟨b, off, e, hb, hc⟩ := h (by intro e; rw [e] at e0; simp [RecR.cells] at e0)
  exact ⟨b, off, e, hb, hc _ _ e0, by rw [Nat.add_assoc]; exact hc _ _ e1⟩
/-- It gives bytes back in a row of their own. -/
def RetOwn (w : World) (l : List UInt8) (e : Ending) (w' : World) : Prop := ∃ A c, e = .returned (.slice A l.length c) ∧ w'.ownsRow w.heap.size 5 1 (.slice A l.length c) l.length (cB l) ∧ Below w.heap.size w w'
theorem jbegin_calls (j : JL) (u f h : Nat) (w : World) (base : Nat) (hJ : JOK w base j) (hu : u ≤ 1) (hf : j.from_ = (f : Int)) (hh : j.half = (h : Int)) (b1 : f ≤ 65536) (b2 : h ≤ 65536) :
    Calls Tryz.prog 119 #[.pointer (some ⟨j.G, 0, none⟩), .int .i64 (u : Int)] w fun e w' => e = .returned (.int .i64 ((f + u * h : Nat) : Int)) ∧ ∃ q, w' = w.drewN q := by
  have c1 := hJ.c1
  have c2 := hJ.c2
  rw [hf] at c1
  rw [hh] at c2
  have hm : ((u : Int) * (h : Int)) = ((u * h : Nat) : Int) := by simp
  have hle : u * h ≤ 65536 := by
    rcases (show u = 0 ∨ u = 1 by omega) with rfl | rfl <;> omega
  have s1 : IntKind.i64.wrap ((u : Int) * (h : Int)) = ((u * h : Nat) : Int) := by rw [hm, IntKind.wrap_i64]; omega
  have s2 : IntKind.i64.wrap ((f : Int) + ((u * h : Nat) : Int)) = ((f + u * h : Nat) : Int) := by rw [IntKind.wrap_i64]; omega
  clear hJ hf hh hm
  go_enter Tryz.func119, Tryz.ntmps119
  go_wp2_with fail
  go_quiet (fail)
  go_wp2
  go_ret
  exact ⟨rfl, _, rfl⟩
theorem jneed_calls (j : JL) (k : UInt8) (A : Option Addr) (n cap : Nat) (w : World) (base : Nat) (hJ : JOK w base j) (hn : n ≤ 1000000000) :
    Calls Tryz.prog 86 #[.pointer (some ⟨j.G, 0, none⟩), .agg #[.int .u8 (k.toNat : Int), .slice A n cap]] w fun e w' => e = .returned (.int .i64 (need j.size (1 + (n : Int)))) ∧ Below w.heap.size w w' := by
  have B1 : ∀ o, Below w.heap.size w (w.alloc o) := fun o => (Below.refl _ _).alloc (Nat.le_refl _) o
  have c3 := fun o => (hJ.below (B1 o)).c3
  have PN : ∀ w : World, Calls Tryz.prog 28 #[.int .i64 j.size, .int .i64 (1 + (n : Int))] w fun e w' => e = .returned (.int .i64 (need j.size (1 + (n : Int)))) ∧ w' = w := fun w => (pneed_calls j.size (1 + (n : Int)) w).mono fun _ _ ⟨a, b⟩ => ⟨a, b.symm⟩
  have s1 : IntKind.i64.wrap (1 + (n : Int)) = 1 + (n : Int) := by rw [IntKind.wrap_i64]; omega
  have B2 : ∀ o q, Below w.heap.size w ((w.alloc o).drewN q) := fun o q => ⟨rfl, rfl, rfl, (B1 o).size, (B1 o).block⟩
  clear hJ
  go_enter Tryz.func86, Tryz.ntmps86
  go_wp2_with fail
  go_quiet ((go_at_call 28; (with_reducible refine Calls.quiet_of_same (PN _))))
  clear PN
  go_wp2
  go_ret
  exact ⟨rfl, B2 _ _⟩
theorem own_cells (w : World) {base : Nat} (e : TypeId) (vs : List Value) (n g : Nat) (hg : w.heap.size = g) (hn : vs.length = n) (hb : base ≤ w.heap.size) (hm : n ≤ maxLen) : (w.alloc (.cells vs.toArray e)).ownsRow base e 1 (.slice (some ⟨g, 0, none⟩) n n) n vs := by
  subst hg hn
  exact ⟨by simp, .inr ⟨w.heap.size, vs.length, vs.toArray, rfl, hb, heap_alloc_new w _, Nat.le_refl _, hm, by simp, by simp⟩⟩
theorem jbytes_calls (r : RecR) (w : World) (hR : RB w r.A r.body) (hl : r.body.length ≤ 1000000) :
    Calls Tryz.prog 121 #[.agg #[.int .u8 (r.kind.toNat : Int), .slice r.A r.body.length r.cap]] w (RetOwn w r.abs.bytes) := by
  have B1 : ∀ o, Below w.heap.size w (w.alloc o) := fun o => (Below.refl _ _).alloc (Nat.le_refl _) o
  have B2 : ∀ o p, Below w.heap.size w ((w.alloc o).alloc p) := fun o p => (B1 o).alloc (B1 o).size p
  have hlen : r.abs.bytes.length = 1 + r.body.length := r.abs.bytes_len
  have HL := Lib.hid hlen
  clear hlen
  go_enter Tryz.func121, Tryz.ntmps121
  go_wp2_with ((with_reducible show wpList _ _ _ (⟨some 8, _, _, _, _, _⟩ :: _) _ _); refine wpList_append_rv el_u8 rfl (.tmp 5) (.tmp 7) rfl w.heap.size (.slice (some ⟨w.heap.size + 1, 0, none⟩) 1 1) 1 (cB [r.kind]) rfl ?e0 r.A r.body.length r.cap (cB r.body) rfl ?e1 (hR.below (B2 _ _)) (cB_one _) ?e2 ?e3 ?e4 ?_)
  case e0 =>
    exact own_cells (w.alloc (.cells #[.int .u8 (r.kind.toNat : Int), .slice r.A r.body.length r.cap] 107)) 5 [.int .u8 (r.kind.toNat : Int)] 1 (w.heap.size + 1) (by simp) rfl (by simp) (by unfold maxLen; omega)
  case e1 => rw [cB_len, Nat.mul_one]
  case e2 => unfold maxLen; omega
  case e3 => omega
  case e4 => simp; omega
  intro v3 w3 own3 gr3 _
  have own4 : w3.ownsRow w.heap.size 5 1 v3 r.abs.bytes.length (cB r.abs.bytes) := by
    have e : cB r.abs.bytes = cB [r.kind] ++ cB r.body := by rw [← cB_append]; rfl
    rw [HL.out, e]
    exact own3
  obtain ⟨A3, c3, rfl, _, _⟩ := own_form own4
  have B3 : Below w.heap.size w w3 := (B2 _ _).grown gr3 (by simp; omega) (fun j hj => by have hj : w.heap.size + 1 = j := Option.some.inj hj; omega)
  have HF : Hid (RetOwn w r.abs.bytes (.returned (.slice A3 r.abs.bytes.length c3)) w3) := ⟨A3, c3, rfl, own4, B3⟩
  clear own3 own4 gr3 B3
  go_wp2
  go_ret
  exact HF.out
end Go.Proofs.YtendnkklbeiegaaGreatDoor
namespace Go.Proofs.YtendnkklbeiegaaGreatDoor
open Go.RowKit DiskP PageP JourP

/-- It gives records back in a row of their own. -/
def RetRows (w : World) (l : List RecR) (e : Ending) (w' : World) : Prop := ∃ v rs, e = .returned v ∧ rs.length = l.length ∧ rs.map RecR.abs = l.map RecR.abs ∧ RowR w' w.heap.size (fun k => k < w.heap.size) v rs ∧ Below w.heap.size w w'
def CopiedR (w : World) (ls : List RecR) (k : Nat) (v : Value) (wr : World) : Prop :=
  ∃ rs, rs.length = k ∧ rs.map RecR.abs = (ls.take k).map RecR.abs ∧ RowR wr w.heap.size (fun k => k < w.heap.size) v rs ∧ Below w.heap.size w wr
theorem copiedR_step {ls rs : List RecR} {k : Nat} {x : RecR} {A : Option Addr} {c : Nat} (hx : ls[k]? = some x) (h : rs.map RecR.abs = (ls.take k).map RecR.abs) : (rs ++ [(⟨x.kind, A, c, x.body⟩ : RecR)]).map RecR.abs = (ls.take (k + 1)).map RecR.abs := by
  obtain ⟨hlt, rfl⟩ := List.getElem?_eq_some_iff.1 hx
  rw [List.take_succ_eq_append_getElem hlt, List.map_append, List.map_append, h]
  rfl
set_option maxHeartbeats 3200000 in
theorem jcopied_calls (ls : List RecR) (A : Option Addr) (cap : Nat) (w : World) (hR : RV w A (rC ls)) (hx : ∀ x ∈ ls, RecOK w (fun _ => False) x) (hs : ∀ x ∈ ls, x.body.length ≤ 1000000) (hl : ls.length ≤ 1000000) :
    Calls Tryz.prog 77 #[.slice A ls.length cap] w (RetRows w ls) := by
  go_enter Tryz.func77, Tryz.ntmps77
  go_wp2
  go_loopw [3, 8] (fun v i wr => ∃ k : Nat, k ≤ ls.length ∧ i = .int .i64 (k : Int) ∧ CopiedR w ls k v wr) (fun _ i _ => ls.length - (intOf i).toNat)
  case atStart => exact ⟨0, by omega, rfl, [], rfl, rfl, RowR.nil _ _ _, Below.refl _ _⟩
  case round =>
    obtain ⟨k, hk, rfl, rs, rfl, hra, hrow, bel⟩ := hrel
    obtain ⟨AR, cR, rfl, _, _⟩ := own_form hrow.own
    by_cases hlt : rs.length < ls.length
    · have dec : decide ((rs.length : Int) < (ls.length : Int)) = true := decide_eq_true (by omega)
      have dec' : decide (rs.length < ls.length) = true := decide_eq_true hlt
      obtain ⟨x, hxk⟩ : ∃ x, ls[rs.length]? = some x := ⟨_, List.getElem?_eq_getElem hlt⟩
      have hxm : x ∈ ls := List.mem_of_getElem? hxk
      obtain ⟨g, off, rfl, hg, x0, x1⟩ := rec_elem (hR.below bel) hxk
      have xrd := ((hx x hxm).rd.rv).below bel
      have xs := hs x hxm
      have HCS := Lib.hid (fun A c => copiedR_step (A := A) (c := c) hxk hra)
      clear hxk hxm hra hx hs
      obtain ⟨xk, xA, xc, xb⟩ := x
      simp only at x0 x1 xrd xs
      go_wp2_with fail
      have bb := Blk.new wr 107 #[.int .u8 (xk.toNat : Int), .slice xA xb.length xc]
      have b1 : Below wr.heap.size wr (wr.alloc (.cells #[.int .u8 (xk.toNat : Int), .slice xA xb.length xc] 107)) := (Below.refl _ _).alloc (Nat.le_refl _) _
      have hz1 : wr.heap.size < (wr.alloc (.cells #[.int .u8 (xk.toNat : Int), .slice xA xb.length xc] 107)).heap.size := by simp
      have xr1 := xrd.below b1
      have bel1 := bel.trans (b1.mono bel.size)
      generalize wr.alloc (.cells #[.int .u8 (xk.toNat : Int), .slice xA xb.length xc] 107) = w1 at *
      clear x0 x1 xrd
      have row1 := hrow.below b1
      have hbs := bel.size
      have x0 : w1.cell? ⟨wr.heap.size, 0, none⟩ = some (.int .u8 (xk.toNat : Int)) := bb.at_ rfl
      have x1 : w1.cell? ⟨wr.heap.size, 1, none⟩ = some (.slice xA xb.length xc) := bb.at_ rfl
      have HP : Hid (∀ (w3 w4 : World) (A3 : Option Addr) (c3 : Nat) (v : Value), Below w1.heap.size w1 w3 → w3.ownsRow w1.heap.size 5 1 (.slice A3 xb.length c3) xb.length (cB xb) → w4.ownsRow w.heap.size 107 2 v (rs.length + 1) (rC rs ++ [.int .u8 (xk.toNat : Int), .slice A3 xb.length c3]) →
          w3.grownBy w4 (Value.slice AR rs.length cR).ownBlock → (v.ownBlock = (Value.slice AR rs.length cR).ownBlock ∨ v.ownBlock = some w3.heap.size) → CopiedR w ls (rs.length + 1) v w4) := by
        intro w3 w4 A3 c3 v b3 o3 o4 g4 hv
        refine ⟨rs ++ [⟨xk, A3, c3, xb⟩], by simp, HCS.out A3 c3, RowR.pushV (x := ⟨xk, A3, c3, xb⟩) row1 b3 (RecOK.made (x := ⟨xk, A3, c3, xb⟩) row1.own (fun k hk => by have := bel1.size; omega) (Nat.le_refl _) o3) o4 g4 hv, (bel1.trans (b3.mono bel1.size)).grown g4 ?_ ?_⟩
        · have := bel1.size; have := b3.size; omega
        · intro j hj; exact (row1.own.lt j hj).1
      have KB : Hid (∀ (w4 : World), Below w1.heap.size w1 w4 → Blk w4 wr.heap.size 107 #[.int .u8 (xk.toNat : Int), .slice xA xb.length xc] ∧ w4.ownsRow w.heap.size 107 2 (.slice AR rs.length cR) rs.length (rC rs)) := fun w4 b4 => ⟨bb.below b4 hz1, (row1.below b4).own⟩
      clear hR hrow bb row1 bel hbs
      go_region_law (first
        | (refine step_append_rv (A := xA) (m := xb.length) (c := xc) (v := .slice none 0 0) (n := 0) (base := w1.heap.size) (xs := []) el_u8 rfl (.const (.slice none 0 0)) (.tmp 16) rfl rfl (World.ownsRow_nil _ _ _ _) rfl (by rw [cB_len, Nat.mul_one]) xr1.drew (cB_one _) (by unfold maxLen; omega) (by omega) (Nat.le_refl _) ?_; intro v4 w4 own4 gr4 hv4; (have own5 : w4.ownsRow w1.heap.size 5 1 v4 xb.length (cB xb) := by simpa using own4); (obtain ⟨A4, c4, hv4f, _, _⟩ := own_form own5); subst hv4f; have b4 : Below w1.heap.size w1 w4 := Below.grown ((Below.refl _ w1).drew) gr4 (Nat.le_refl _) (fun j hj => by cases hj); have q0 : w4.cell? ⟨wr.heap.size, 0, none⟩ = some (.int .u8 (xk.toNat : Int)) := (KB.out w4 b4).1.at_ rfl; have q1 : w4.cell? ⟨wr.heap.size, 1, none⟩ = some (.slice xA xb.length xc) := (KB.out w4 b4).1.at_ rfl; clear own4 gr4 hv4)
        | (refine step_append_rv (A := some ⟨w4.heap.size, 0, none⟩) (m := 1) (c := 1) (v := .slice AR rs.length cR) (n := rs.length) (base := w.heap.size) (xs := rC rs) el_rec rfl (.tmp 12) (.tmp 19) rfl rfl ((KB.out w4 b4).2.alloc _) rfl rfl (RV.new w4 [.int .u8 (xk.toNat : Int), .slice A4 xb.length c4] 107 (0, 0)) (rC_one [⟨xk, A4, c4, xb⟩]) (by unfold maxLen; omega) (by omega) (by have := bel1.size; have := b4.size; simp; omega) ?_; intro v5 w5 own6 gr5 hv5; (obtain ⟨A5, c5, hv5f, _, _⟩ := own_form own6); subst hv5f; have HC := Lib.hid (HP.out _ w5 A4 c4 _ (b4.alloc b4.size _) (own5.alloc _) own6 gr5 (by simpa using hv5)); clear own6 gr5 hv5 own5 b4 q0 q1))
      all_goals
        clear HP KB HCS
        go_wp2
        go_roundw
        case rel => exact ⟨rs.length + 1, by omega, by go_num, HC.out⟩
        case measure => simp [intOf]; omega
    · have hE : rs.length = ls.length := by omega
      have dec : decide ((rs.length : Int) < (ls.length : Int)) = false := decide_eq_false (by omega)
      have dec' : decide (rs.length < ls.length) = false := decide_eq_false hlt
      have HC : Hid (RetRows w ls (.returned (.slice AR rs.length cR)) wr) := ⟨_, rs, rfl, hE, by rw [hra, hE, List.take_length], hrow, bel⟩
      clear hrow hra hE
      go_wp2
      go_ret
      exact HC.out
end Go.Proofs.YtendnkklbeiegaaGreatDoor
namespace Go.Proofs.YtendnkklbeiegaaGreatDoor
open Go.RowKit DiskP PageP JourP

/-- A row of the call's own reads as its cells, apart from what was there. -/
theorem own_rvfN {w : World} {N n c s : Nat} {e : TypeId} {F : Nat → Prop} {A : Option Addr} {xs : List Value} (h : w.ownsRow N e s (.slice A n c) n xs) (hF : ∀ k, F k → k < N ∨ w.heap.size ≤ k) : RVF w F A xs := fun hne => by
  have hl := h.1
  rcases h.2 with ⟨_, h0⟩ | ⟨g, cap, cur, e1, h1, h2, _⟩
  · exfalso
    subst h0
    rw [Nat.zero_mul] at hl
    exact hne (List.length_eq_zero_iff.1 hl)
  · injection e1 with e1 _ e3
    subst e1 e3
    have hlt := lt_of_block h2
    refine ⟨g, 0, rfl, hlt, fun hf => by rcases hF g hf with h3 | h3 <;> omega, fun j v hj => ?_⟩
    rw [Nat.zero_add, h.cellAt _ (by rw [← hl]; exact (List.getElem?_eq_some_iff.1 hj).1)]
    exact hj
section
variable {w w' : World} {base : Nat} {j : JL} {p : PJ}
theorem JLog.small (h : JLog w base j p) : ∀ x ∈ j.rs, x.body.length ≤ 4000 := fun x hx => by
  have := h.inv.base.small x.abs (by rw [← h.frs]; exact List.mem_map_of_mem hx)
  exact this
theorem JLog.rows (h : JLog w base j p) : ∃ A c, j.v = .slice A j.rs.length c ∧ RV w A (rC j.rs) ∧ (∀ x ∈ j.rs, RecOK w (fun _ => False) x) ∧ j.rs.length ≤ 65536 := by
  obtain ⟨A, c, hv, _, _⟩ := own_form h.ok.kp.row.own
  refine ⟨A, c, hv, ?_, fun x hx => (h.ok.kp.row.ks x hx).mono fun _ _ hk => hk.elim, ?_⟩
  · have := h.ok.kp.row.own
    rw [hv] at this
    exact (own_rvfN (F := fun _ => False) this (fun _ hk => hk.elim)).rv
  · have := h.len
    obtain ⟨_, _, h3, h4, _, _, h7, _⟩ := h.sizes
    omega
/-- Behind a call on its disk. -/
theorem JLog.disk {S : Dsk} {lasts : Nat} (h : JLog w base j p) (n : Next w base j.y S w') (hi : Inv S p.b p.o p.half p.e p.rs lasts) (hs : S.size = j.y.size) (hll : S.last.length = j.y.abs.last.length) : NextJ w base j { p with lasts := lasts } S w' := by
  obtain ⟨y', h1, h2, h3, h4, h5⟩ := h.ok.disk n
  have hz : y'.size = j.y.size := by have : y'.abs.size = y'.size := rfl; rw [← this, h1, hs]
  refine ⟨{ j with y := y' }, ⟨h3, by rw [← h1] at hi; exact hi, h.u, h.ffrom, h.fhalf, by rw [h.fsize]; exact congrArg (fun n : Nat => (n : Int)) hz.symm, h.fuse, h.fe, by rw [h.fat]; show _ = ((p.b + pos y'.size p.rs p.rs.length : Nat) : Int); rw [hz], h.frs⟩, rfl, h2, ⟨hz, Lay.last_len h1 hll⟩, h4.mono fun k _ hk => .inr (.inr hk), fun k hk => ?_, fun X _ hX z hz => RecOK.stay h.ok hz (hX z hz) (h4.mono fun k _ hk => .inr (.inr hk)), h1⟩
  rcases hk with hk | hk | hk
  · exact .inl (.inl hk)
  · exact .inl (.inr (.inl hk))
  · exact (h5 k hk).imp (fun hf => .inr (.inr hf)) id
end
theorem jall_calls (j : JL) (p : PJ) (w : World) (base : Nat) (h : JLog w base j p) :
    Calls Tryz.prog 31 #[.pointer (some ⟨j.G, 0, none⟩)] w (RetRows w j.rs) := by
  obtain ⟨A, c, hv, hrv, hks, hn⟩ := h.rows
  have c7 := h.ok.c7
  rw [hv] at c7
  have CC := jcopied_calls j.rs A c w hrv hks (fun x hx => by have := h.small x hx; omega) (by omega)
  clear h hv hrv hks
  go_enter Tryz.func31, Tryz.ntmps31
  go_wp2_with fail
  refine CC.mono ?_
  clear CC
  rintro e w1 ⟨v, rs, rfl, h1, h2, h3, h4⟩
  have HF : Hid (RetRows w j.rs (.returned v) w1) := ⟨v, rs, rfl, h1, h2, h3, h4⟩
  clear h1 h2 h3 h4
  go_wp2
  go_ret
  exact HF.out
theorem jepoch_calls (j : JL) (w : World) (base : Nat) (h : JOK w base j) :
    Calls Tryz.prog 110 #[.pointer (some ⟨j.G, 0, none⟩)] w fun e w' => e = .returned (.int .i64 j.epoch) ∧ w = w' := by
  have c5 := h.c5
  clear h
  go_enter Tryz.func110, Tryz.ntmps110
  go_wp2
  go_ret
  exact ⟨rfl, rfl⟩
theorem jleft_calls (j : JL) (p : PJ) (w : World) (base : Nat) (h : JLog w base j p) :
    Calls Tryz.prog 145 #[.pointer (some ⟨j.G, 0, none⟩)] w fun e w' => e = .returned (.int .i64 (leftN j.y.size p)) ∧ ∃ q, w' = w.drewN q := by
  obtain ⟨z1, z2, z3, z4, z5, z6, z7, z8⟩ := h.sizes
  have hu := h.u
  have hbd : p.b = p.from_ + p.use * p.half := rfl
  have hpa := pos_all j.y.size p.rs
  have c2 := h.ok.c2
  have c4 := h.ok.c4
  have c6 := h.ok.c6
  rw [h.fhalf] at c2
  rw [h.fuse] at c4
  rw [h.fat, hpa] at c6
  have BC := fun q => jbegin_calls j p.use p.from_ p.half (w.drewN q) base (h.ok.drewN q) hu h.ffrom h.fhalf (by omega) (by omega)
  rw [← hbd] at BC
  obtain ⟨a, ha⟩ : ∃ a : Int, a = ((p.b + (1 + sumNd j.y.size p.rs) : Nat) : Int) := ⟨_, rfl⟩
  rw [← ha] at c6
  have HE : Hid (leftN j.y.size p = (p.b : Int) + (p.half : Int) - a) := by show _ = _; unfold leftN; omega
  have s1 : IntKind.i64.wrap ((p.b : Int) + (p.half : Int)) = (p.b : Int) + (p.half : Int) := by rw [IntKind.wrap_i64]; omega
  have a1 : 0 ≤ a := by omega
  have a2 : a ≤ 200000 := by omega
  have b1 : (p.b : Int) ≤ 65536 := by omega
  have b2 : (p.half : Int) ≤ 65536 := by omega
  have s2 : IntKind.i64.wrap ((p.b : Int) + (p.half : Int) - a) = (p.b : Int) + (p.half : Int) - a := by rw [IntKind.wrap_i64]; omega
  clear h hu hbd hpa ha z1 z2 z3 z4 z5 z6 z7 z8
  go_enter Tryz.func145, Tryz.ntmps145
  go_wp2_with fail
  go_quiet ((go_at_call 119; (with_reducible refine Calls.quiet_of (BC _))))
  clear BC
  go_wp2
  go_ret
  exact ⟨by rw [HE.out]; rfl, _, rfl⟩
def RetJ (w : World) (base : Nat) (j : JL) (E : Int) (p' : PJ) (S : Dsk) (e : Ending) (w' : World) : Prop := e = .returned (.int .i64 E) ∧ NextJ w base j p' S w'
theorem jsync_calls (j : JL) (p : PJ) (w : World) (base : Nat) (h : JLog w base j p) (hw : j.y.wp.length ≤ 65536) :
    Calls Tryz.prog 61 #[.pointer (some ⟨j.G, 0, none⟩)] w (RetJ w base j 0 p.sync j.y.abs.flush) := by
  have c0 := h.ok.c0
  have hof : j.y.abs.off = false := h.inv.base.off
  have FC := flush_calls j.y w base h.ok.dk (by omega)
  have e1 : j.y.abs.flushE = 0 := by unfold DiskP.Dsk.flushE; rw [hof]; rfl
  have e2 : j.y.abs.flushS = j.y.abs.flush := by unfold DiskP.Dsk.flushS; rw [hof]; rfl
  rw [e1, e2] at FC
  have HP := Lib.hid (fun w' (n : Next w base j.y j.y.abs.flush w') => h.disk n h.inv.sync rfl (applyW_length _ _))
  clear h hof e1 e2 hw
  go_enter Tryz.func61, Tryz.ntmps61
  go_wp2_with fail
  refine FC.mono ?_
  clear FC
  rintro e w1 ⟨rfl, n⟩
  have HF : Hid (RetJ w base j 0 p.sync j.y.abs.flush (.returned (.int .i64 0)) w1) := ⟨rfl, HP.out w1 n⟩
  clear n HP
  go_wp2
  go_ret
  exact HF.out
end Go.Proofs.YtendnkklbeiegaaGreatDoor
namespace Go.Proofs.YtendnkklbeiegaaGreatDoor
open Go.RowKit

/-- A text's bytes, in a block that was not there. -/
theorem conv_bytesF (l : List UInt8) (w : World) (hl : l.length ≤ 100000) : ∃ c w', (convert 9 42 (.string (bstr l))).run Tryz.prog w = .ok (.slice (some ⟨w.heap.size, 0, none⟩) l.length c) w' ∧ RVF w' (fun k => k < w.heap.size) (some ⟨w.heap.size, 0, none⟩) (cB l) ∧ l.length ≤ c ∧ c ≤ 9223372036854775807 ∧ Below w.heap.size w w' := by
  have hz : (bstr l).size = l.length := rfl
  refine ⟨_, _, run_bytes_of_string w 9 42 5 (bstr l) Tryz.underlying9 Tryz.underlying42 Tryz.underlying5, ?_, ?_, ?_, ((Below.refl _ _).drew).alloc (Nat.le_refl _) _⟩
  · intro _
    refine ⟨w.heap.size, 0, rfl, ?_, Nat.lt_irrefl _, fun j v hj => ?_⟩
    · show w.heap.size < (w.drew.alloc _).heap.size
      have : (w.drew.alloc (Obj.cells (bytesRow (bstr l) (grownCap w (bstr l).size 0 5)) 5 ((bytesRow (bstr l) (grownCap w (bstr l).size 0 5)).size, (bytesRow (bstr l) (grownCap w (bstr l).size 0 5)).size + 1))).heap.size = w.heap.size + 1 := by simp
      omega
    · have hjl : j < l.length := by have := (List.getElem?_eq_some_iff.1 hj).1; rwa [cB_len] at this
      have h1 : (cB l)[j]? = some (.int .u8 ((l[j]).toNat : Int)) := by simp [cB, byteV, hjl]
      rw [h1] at hj
      injection hj with hj
      subst hj
      have h2 := World.cell?_alloc_mark w.drew (bytesRow (bstr l) (grownCap w (bstr l).size 0 5)) 5 ((bytesRow (bstr l) (grownCap w (bstr l).size 0 5)).size, (bytesRow (bstr l) (grownCap w (bstr l).size 0 5)).size + 1) (0 + j)
      refine h2.trans ?_
      rw [Nat.zero_add]
      exact bytesRow_at (bstr l) _ j hjl
  · rw [hz]; exact grownCap_ge _ _ _ _
  · have := grownCap_le_maxLen w (bstr l).size 0 5 (by rw [hz]; unfold maxLen; omega)
    unfold maxLen at this
    omega
def RetRec (w : World) (k : UInt8) (l : List UInt8) (e : Ending) (w' : World) : Prop :=
  ∃ x : RecR, x.kind = k ∧ x.body = l ∧ e = .returned (.agg #[.int .u8 (x.kind.toNat : Int), .slice x.A x.body.length x.cap]) ∧ RecOK w' (fun k => k < w.heap.size) x ∧ Below w.heap.size w w'
set_option maxRecDepth 100000 in
theorem record_calls (k : UInt8) (l : List UInt8) (w : World) (hl : l.length ≤ 100000) :
    Calls Tryz.prog 58 #[.int .u8 (k.toNat : Int), .string (bstr l)] w (RetRec w k l) := by
  have B1 : Below w.heap.size w (w.alloc (.cells #[.int .u8 0, .slice none 0 0] 107)) := (Below.refl _ _).alloc (Nat.le_refl _) _
  have bk := Blk.new w 107 #[.int .u8 0, .slice none 0 0]
  obtain ⟨c, w2, hr, rv, h1, h2, b2⟩ := conv_bytesF l (w.alloc (.cells #[.int .u8 0, .slice none 0 0] 107)) hl
  rw [World.size_alloc] at hr rv
  have bk2 := bk.below b2 bk.lt
  have c0 := bk2.at_ (i := 0) rfl
  have c1 := bk2.at_ (i := 1) rfl
  have z0 := bk2.frozen 0
  have z1 := bk2.frozen 1
  have b3 : Below w.heap.size w w2 := B1.trans (b2.mono B1.size)
  have bF : Blk ((w2.setCell ⟨w.heap.size, 0, none⟩ (.int .u8 (k.toNat : Int))).setCell ⟨w.heap.size, 1, none⟩ (.slice (some ⟨w.heap.size + 1, 0, none⟩) l.length c)) w.heap.size 107 #[.int .u8 (k.toNat : Int), .slice (some ⟨w.heap.size + 1, 0, none⟩) l.length c] := (bk2.set_ 0 _).set_ 1 _
  have HF : Hid (RetRec w k l (.returned (.agg #[.int .u8 (k.toNat : Int), .slice (some ⟨w.heap.size + 1, 0, none⟩) l.length c])) ((w2.setCell ⟨w.heap.size, 0, none⟩ (.int .u8 (k.toNat : Int))).setCell ⟨w.heap.size, 1, none⟩ (.slice (some ⟨w.heap.size + 1, 0, none⟩) l.length c))) := by
    refine ⟨⟨k, some ⟨w.heap.size + 1, 0, none⟩, c, l⟩, rfl, rfl, rfl, ⟨?_, h1, h2⟩, (b3.setCell (p := ⟨w.heap.size, 0, none⟩) (Nat.le_refl _) _).setCell (p := ⟨w.heap.size, 1, none⟩) (Nat.le_refl _) _⟩
    have rv2 : RVF w2 (fun k => k < w.heap.size + 1) (some ⟨w.heap.size + 1, 0, none⟩) (cB l) := rv
    refine RVF.next (F := fun k => k < w.heap.size + 1) rv2 (((Kept.refl _ w2).setCell (p := ⟨w.heap.size, 0, none⟩) (.inl (Nat.lt_succ_self _)) _).setCell (p := ⟨w.heap.size, 1, none⟩) (.inl (Nat.lt_succ_self _)) _) fun j _ hj => ?_
    exact Nat.lt_succ_of_lt hj
  clear bk bk2 rv b2 b3 B1
  go_enter Tryz.func58, Tryz.ntmps58
  go_wp2
  refine bodyPost_ret (results_cell_row rfl _ _ w.heap.size 107 #[.int .u8 (k.toNat : Int), .slice (some ⟨w.heap.size + 1, 0, none⟩) l.length c] (0, 0) _ (by kernel_rfl) bF Tryz.underlying107 (by kernel_rfl) (by kernel_rfl)) rfl ?_
  exact HF.out
end Go.Proofs.YtendnkklbeiegaaGreatDoor
namespace Go.Proofs.YtendnkklbeiegaaGreatDoor
open Go.RowKit DiskP PageP JourP

theorem RowR.appendV {w1 w3 w4 : World} {base : Nat} {F : Nat → Prop} {v v4 : Value} {rs xs : List RecR} (h : RowR w1 base F v rs) (b3 : Below w1.heap.size w1 w3)
    (o3 : ∀ x ∈ xs, RecOK w3 (fun k => v.ownBlock = some k ∨ F k) x) (own4 : w4.ownsRow base 107 2 v4 (rs.length + xs.length) (rC rs ++ rC xs)) (gr : w3.grownBy w4 v.ownBlock) (hv : v4.ownBlock = v.ownBlock ∨ v4.ownBlock = some w3.heap.size) : RowR w4 base F v4 (rs ++ xs) := by
  have K : Kept (fun k => v.ownBlock = some k) w1 w4 := (Kept.of_below b3 _).trans ((Kept.refl _ w3).grown gr (fun k hk => .inl hk))
  have K3 : Kept (fun k => v.ownBlock = some k) w3 w4 := (Kept.refl _ w3).grown gr (fun k hk => .inl hk)
  have hsz := b3.size
  refine ⟨by simp only [List.length_append, rC_append]; exact own4, fun z hz => ?_⟩
  rcases List.mem_append.1 hz with hz | hz
  · refine (h.ks z hz).next (K.mono fun _ _ hf => .inl hf) (fun k hk hf => ?_)
    rcases hf with hf | hf
    · rcases hv with e | e
      · rw [e] at hf; exact .inl hf
      · rw [e] at hf; injection hf with hf; omega
    · exact .inr hf
  · refine (o3 z hz).next (K3.mono fun _ _ hf => .inl hf) (fun k hk hf => ?_)
    rcases hf with hf | hf
    · rcases hv with e | e
      · rw [e] at hf; exact .inl hf
      · rw [e] at hf; injection hf with hf; omega
    · exact .inr hf
/-- A log whose records are put behind by others: w1 is where it stood, w3 where the row is put behind, w4 what became of it; then its struct's last cell is stored. -/
theorem JOK.append {w1 w3 w4 : World} {base : Nat} {j : JL} {xs : List RecR} {v4 : Value} (h : JOK w1 base j) (b3 : Below w1.heap.size w1 w3) (o3 : ∀ x ∈ xs, RecOK w3 j.foot x)
    (own4 : w4.ownsRow base 107 2 v4 (j.rs.length + xs.length) (rC j.rs ++ rC xs)) (gr : w3.grownBy w4 j.v.ownBlock) (hv : v4.ownBlock = j.v.ownBlock ∨ v4.ownBlock = some w3.heap.size) :
    JOK (w4.setCell ⟨j.G, 7, none⟩ v4) base { j with v := v4, rs := j.rs ++ xs } ∧ Kept j.foot w1 (w4.setCell ⟨j.G, 7, none⟩ v4) ∧ ∀ k, ({ j with v := v4, rs := j.rs ++ xs } : JL).foot k → j.foot k ∨ w1.heap.size ≤ k := by
  have hs := b3.size
  have K : Kept (fun k => j.v.ownBlock = some k) w1 w4 := (Kept.of_below b3 _).trans ((Kept.refl _ w3).grown gr (fun k hk => .inl hk))
  have hG := h.gk.lt
  have row4 := h.kp.row.appendV b3 (fun x hx => (o3 x hx).mono fun k _ hk => by
    rcases hk with hk | hk | hk
    · exact .inr (.inl hk)
    · exact .inl hk
    · exact .inr (.inr hk)) own4 gr hv
  have hvn : ∀ k, v4.ownBlock = some k → j.v.ownBlock = some k ∨ w1.heap.size ≤ k := fun k hk => by
    rcases hv with e | e
    · rw [e] at hk; exact .inl hk
    · rw [e] at hk; injection hk with hk; exact .inr (by omega)
  have gk4 : Blk w4 j.G 168 j.cells := (K.block j.G hG h.kp.gv).trans h.gk
  have dk4 : DiskOK w4 base j.y := h.dk.kept K fun k hk hv => h.kp.vy k hv hk
  have kp4 : KeepR w4 base j.G j.y v4 (j.rs ++ xs) := ⟨row4, fun e => by
    rcases hvn j.G e with e | e
    · exact h.kp.gv e
    · omega, fun k hk hf => by
    rcases hvn k hk with e | e
    · exact h.kp.vy k e hf
    · have := (h.dk.foot_lt hf).2; omega⟩
  have K5 : Kept (fun k => k = j.G) w4 (w4.setCell ⟨j.G, 7, none⟩ v4) := (Kept.refl (fun k => k = j.G) w4).setCell (p := ⟨j.G, 7, none⟩) (.inl rfl) v4
  refine ⟨⟨gk4.set_ 7 v4, dk4.kept K5 (fun k hk e => h.gy (by rw [← e]; exact hk)), kp4.struct K5, h.bG, h.gy⟩, (K.mono fun k _ hk => .inr (.inl hk)).trans (K5.mono fun k _ hk => .inl hk), fun k hk => ?_⟩
  rcases hk with hk | hk | hk
  · exact .inl (.inl hk)
  · exact (hvn k hk).imp (fun e => .inr (.inl e)) id
  · exact .inl (.inr (.inr hk))
/-- Behind a store of its last sector's number. -/
theorem JOK.setAt {w : World} {base : Nat} {j : JL} (h : JOK w base j) (n : Int) : JOK (w.setCell ⟨j.G, 6, none⟩ (.int .i64 n)) base { j with at_ := n } ∧ Kept j.foot w (w.setCell ⟨j.G, 6, none⟩ (.int .i64 n)) := by
  have K5 : Kept (fun k => k = j.G) w (w.setCell ⟨j.G, 6, none⟩ (.int .i64 n)) := (Kept.refl (fun k => k = j.G) w).setCell (p := ⟨j.G, 6, none⟩) (.inl rfl) _
  exact ⟨h.struct K5 rfl rfl (h.gk.set_ 6 _) h.kp, K5.mono fun k _ hk => .inl hk⟩
/-- What is not of a log stays; what is new of it lies in new blocks. -/
def FootN (w : World) (j j' : JL) (w' : World) : Prop := Kept j.foot w w' ∧ ∀ k, j'.foot k → j.foot k ∨ w.heap.size ≤ k
theorem FootN.trans {a b c : World} {j j' j'' : JL} (h : FootN a j j' b) (k : FootN b j' j'' c) : FootN a j j'' c := by
  obtain ⟨h1, h2⟩ := h
  obtain ⟨k1, k2⟩ := k
  have hs := h1.size
  refine ⟨⟨k1.os.trans h1.os, k1.tape.trans h1.tape, k1.output.trans h1.output, Nat.le_trans h1.size k1.size, fun i hi hf => (k1.block i (by omega) fun hf' => ?_).trans (h1.block i hi hf)⟩, fun i hi => ?_⟩
  · rcases h2 i hf' with e | e
    · exact hf e
    · omega
  · rcases k2 i hi with e | e
    · exact h2 i e
    · exact .inr (by omega)
theorem FootN.below {w w' : World} {j : JL} (b : Below w.heap.size w w') : FootN w j j w' := ⟨Kept.of_below b _, fun _ hk => .inl hk⟩
theorem FootN.disk {w w' : World} {j : JL} {y' : Lay} (h4 : Kept j.y.foot w w') (h5 : ∀ k, y'.foot k → j.y.foot k ∨ w.heap.size ≤ k) : FootN w j { j with y := y' } w' := ⟨h4.mono fun k _ hk => .inr (.inr hk), fun k hk => by
  rcases hk with hk | hk | hk
  · exact .inl (.inl hk)
  · exact .inl (.inr (.inl hk))
  · exact (h5 k hk).imp (fun hf => .inr (.inr hf)) id⟩
theorem FootN.setAt {w : World} {base : Nat} {j : JL} (h : JOK w base j) (n : Int) : FootN w j { j with at_ := n } (w.setCell ⟨j.G, 6, none⟩ (.int .i64 n)) := ⟨(h.setAt n).2, fun _ hk => .inl hk⟩
end Go.Proofs.YtendnkklbeiegaaGreatDoor
namespace Go.Proofs.YtendnkklbeiegaaGreatDoor
open Go.RowKit DiskP SumP PageP JourP

theorem RetJ.same {w : World} {base : Nat} {j : JL} {p : PJ} (h : JLog w base j p) (E : Int) (w' : World) (b : Below w.heap.size w w') : RetJ w base j E p j.y.abs (.returned (.int .i64 E)) w' := ⟨rfl, NextJ.same_below h b⟩
theorem JLog.nd {w : World} {base : Nat} {j : JL} {p : PJ} (h : JLog w base j p) (x : RecR) (hx : x.body.length ≤ 1000000) : need j.size (1 + (x.body.length : Int)) = (x.abs.nd j.y.size : Int) ∧ 1 ≤ x.abs.nd j.y.size := by
  obtain ⟨z1, z2, _⟩ := h.sizes
  have hl : x.abs.bytes.length = 1 + x.body.length := x.abs.bytes_len
  obtain ⟨n1, n2⟩ := nd_eq (size := j.y.size) (len := x.abs.bytes.length) z1 z2 (by omega)
  rw [h.fsize, show (1 : Int) + (x.body.length : Int) = ((x.abs.bytes.length : Nat) : Int) by omega]
  exact ⟨n1, n2⟩
theorem jadd_long (j : JL) (p : PJ) (x : RecR) (w : World) (base : Nat) (h : JLog w base j p) (hl : 4000 < x.body.length) :
    Calls Tryz.prog 103 #[.pointer (some ⟨j.G, 0, none⟩), .agg #[.int .u8 (x.kind.toNat : Int), .slice x.A x.body.length x.cap]] w (RetJ w base j 1 p j.y.abs) := by
  have d1 : decide (4000 < (x.body.length : Int)) = true := decide_eq_true (by omega)
  have HP := Lib.hid (RetJ.same h 1)
  have B1 : Below w.heap.size w (w.alloc (.cells #[.int .u8 (x.kind.toNat : Int), .slice x.A x.body.length x.cap] 107)) := (Below.refl _ _).alloc (Nat.le_refl _) _
  clear h hl
  go_enter Tryz.func103, Tryz.ntmps103
  go_wp2
  go_ret
  exact HP.out _ B1
theorem jadd_room (j : JL) (p : PJ) (x : RecR) (w : World) (base : Nat) (h : JLog w base j p) (hl : x.body.length ≤ 4000) (hr : p.half < 1 + sumNd j.y.size p.rs + x.abs.nd j.y.size) :
    Calls Tryz.prog 103 #[.pointer (some ⟨j.G, 0, none⟩), .agg #[.int .u8 (x.kind.toNat : Int), .slice x.A x.body.length x.cap]] w (RetJ w base j 5 p j.y.abs) := by
  have d1 : decide (4000 < (x.body.length : Int)) = false := decide_eq_false (by omega)
  have HP := Lib.hid (RetJ.same h 5)
  have B1 : Below w.heap.size w (w.alloc (.cells #[.int .u8 (x.kind.toNat : Int), .slice x.A x.body.length x.cap] 107)) := (Below.refl _ _).alloc (Nat.le_refl _) _
  have NC := fun w1 (hb : Below w.heap.size w w1) => jneed_calls j x.kind x.A x.body.length x.cap w1 base (h.ok.below hb) (by omega)
  have LC := fun w1 (hb : Below w.heap.size w w1) => jleft_calls j p w1 base (h.below hb)
  have HN := (h.nd x (by omega)).1
  rw [HN] at NC
  have d2 : decide (leftN j.y.size p < (x.abs.nd j.y.size : Int)) = true := decide_eq_true (by unfold leftN; omega)
  have b1 := (Blk.new w 107 #[.int .u8 (x.kind.toNat : Int), .slice x.A x.body.length x.cap])
  generalize x.abs.nd j.y.size = nd at *
  generalize leftN j.y.size p = lf at *
  clear h hl hr HN
  go_enter Tryz.func103, Tryz.ntmps103
  go_wp2_with fail
  refine (NC _ B1).mono ?_
  clear NC
  rintro e w2 ⟨rfl, b2⟩
  have B2 := B1.trans (b2.mono B1.size)
  go_wp2_with fail
  refine (LC _ B2).mono ?_
  clear LC
  rintro e w3 ⟨rfl, q, rfl⟩
  have HF := Lib.hid (HP.out (w2.drewN q) ⟨B2.os, B2.tape, B2.output, B2.size, B2.block⟩)
  clear HP
  go_wp2
  go_ret
  exact HF.out
end Go.Proofs.YtendnkklbeiegaaGreatDoor
namespace Go.Proofs.YtendnkklbeiegaaGreatDoor
open Go.RowKit DiskP SumP PageP JourP

/-- What is neither a log's struct nor its disk stays; what is new of the disk lies in new blocks. -/
def FootD (w : World) (G : Nat) (y y' : Lay) (w' : World) : Prop := Kept (fun k => k = G ∨ y.foot k) w w' ∧ ∀ k, y'.foot k → y.foot k ∨ w.heap.size ≤ k
theorem FootD.trans {a b c : World} {G : Nat} {y y' y'' : Lay} (h : FootD a G y y' b) (k : FootD b G y' y'' c) : FootD a G y y'' c := by
  obtain ⟨h1, h2⟩ := h
  obtain ⟨k1, k2⟩ := k
  have hs := h1.size
  refine ⟨⟨k1.os.trans h1.os, k1.tape.trans h1.tape, k1.output.trans h1.output, Nat.le_trans h1.size k1.size, fun i hi hf => (k1.block i (by omega) fun hf' => ?_).trans (h1.block i hi hf)⟩, fun i hi => ?_⟩
  · rcases hf' with e | hf'
    · exact hf (.inl e)
    · rcases h2 i hf' with e | e
      · exact hf (.inr e)
      · omega
  · rcases k2 i hi with e | e
    · exact h2 i e
    · exact .inr (by omega)
theorem FootD.below {w w' : World} {G : Nat} {y : Lay} (b : Below w.heap.size w w') : FootD w G y y w' := ⟨Kept.of_below b _, fun _ hk => .inl hk⟩
theorem FootD.disk {w w' : World} {G : Nat} {y y' : Lay} (h4 : Kept y.foot w w') (h5 : ∀ k, y'.foot k → y.foot k ∨ w.heap.size ≤ k) : FootD w G y y' w' := ⟨h4.mono fun _k _ hk => .inr hk, h5⟩
theorem FootD.struct {w w' : World} {G : Nat} {y : Lay} (h : Kept (fun k => k = G) w w') : FootD w G y y w' := ⟨h.mono fun _k _ hk => .inl hk, fun _ hk => .inl hk⟩
/-- While a log is turned to the records ks, of the row v: its disk is S. -/
structure TurnR (w : World) (base : Nat) (j : JL) (v : Value) (ks : List RecR) (S : Dsk) (wr : World) (y' : Lay) : Prop where
  abs : y'.abs = S
  D : y'.D = j.y.D
  ok : JOK wr base { j with y := y' }
  kp : KeepR wr base j.G y' v ks
  fn : FootD w j.G j.y y' wr
def TurnX (w : World) (base : Nat) (j : JL) (v : Value) (ks : List RecR) (S : Dsk) (wr : World) : Prop := ∃ y', TurnR w base j v ks S wr y'
section
variable {w wr w4 w5 : World} {base : Nat} {j : JL} {v : Value} {ks : List RecR} {S S' : Dsk} {y' : Lay}
theorem TurnR.below (h : TurnR w base j v ks S wr y') (b : Below wr.heap.size wr w4) : TurnR w base j v ks S w4 y' := ⟨h.abs, h.D, h.ok.below b, h.kp.below b, h.fn.trans (FootD.below b)⟩
theorem TurnR.next (h : TurnR w base j v ks S wr y') (n : Next wr base y' S' w5) : TurnX w base j v ks S' w5 := by
  obtain ⟨z, z1, z2, z3, z4, z5⟩ := h.ok.disk n
  exact ⟨z, z1, z2.trans h.D, z3, h.kp.disk z4 z5, h.fn.trans (FootD.disk z4 z5)⟩
theorem TurnR.lens (h : TurnR w base j v ks S wr y') : y'.lp.length = S.last.length ∧ y'.size = S.size ∧ y'.wp.length = S.wait.length ∧ y'.off = S.off := by
  rw [← h.abs]
  simp [Lay.abs]
theorem TurnR.gk (h : TurnR w base j v ks S wr y') : Blk wr j.G 168 j.cells := by
  have := h.ok.gk
  unfold JL.cells at this ⊢
  simp only [h.D] at this
  exact this
/-- A record of the row. -/
theorem TurnR.recAt (h : TurnR w base j v ks S wr y') {k : Nat} {x : RecR} (hk : ks[k]? = some x) : ∃ g c, v = .slice (some ⟨g, 0, none⟩) ks.length c ∧ g < wr.heap.size ∧
    wr.cell? ⟨g, k * 2, none⟩ = some (.int .u8 (x.kind.toNat : Int)) ∧ wr.cell? ⟨g, k * 2 + 1, none⟩ = some (.slice x.A x.body.length x.cap) ∧ RecOK wr y'.foot x := by
  obtain ⟨g, c, e, _, h1, h2, h3⟩ := rec_cells h.kp.row hk
  exact ⟨g, c, e, h1, h2, h3, (h.kp.row.ks x (List.mem_of_getElem? hk)).mono fun k _ hf => .inr (.inr hf)⟩
theorem TurnR.start (h : JOK w base j) (hk : KeepR w base j.G j.y v ks) : TurnR w base j v ks j.y.abs w j.y := ⟨rfl, rfl, h, hk, ⟨Kept.refl _ _, fun _ hk => .inl hk⟩⟩
theorem TurnR.keep (_h : TurnR w base j v ks S wr y') (b : Below wr.heap.size wr w4) {_k g : Nat} (hf : ¬ y'.foot g) (hg : g < wr.heap.size) (n : Next w4 base y' S' w5) : w5.heap[g]? = wr.heap[g]? := by
  obtain ⟨z, z1, z2, z3, z4, z5⟩ := n
  exact (z4.block g (by have := b.size; omega) hf).trans (b.block g hg)
end
theorem zerosD_next {d : Dsk} {a k sz : Nat} (ho : d.off = false) (hs : d.size = sz) (h : a + k < d.last.length) : (zerosD d a k).writeE ((a + k : Nat) : Int) (List.replicate sz 0) = 0 ∧ (zerosD d a k).writeS ((a + k : Nat) : Int) (List.replicate sz 0) = zerosD d a (k + 1) := by
  subst hs
  have hh : (zerosD d a k).has ((a + k : Nat) : Int) = true := by
    unfold Dsk.has
    have : (zerosD d a k).last.length = d.last.length := rfl
    rw [this]
    simp
    omega
  have hE : (zerosD d a k).writeE ((a + k : Nat) : Int) (List.replicate d.size 0) = 0 := by
    unfold Dsk.writeE
    have e1 : (zerosD d a k).size = d.size := rfl
    have e2 : (zerosD d a k).off = d.off := rfl
    rw [hh, e1, e2, ho, if_neg (by decide), if_neg (by simp)]
    rfl
  refine ⟨hE, ?_⟩
  unfold DiskP.Dsk.writeS
  rw [if_pos hE, zerosD_succ, Int.toNat_natCast]
theorem zerosD_wait (d : Dsk) (a k : Nat) : (zerosD d a k).wait.length = d.wait.length + k := by simp [zerosD]
/-- What turning gives back. -/
def RetTurn (w : World) (base : Nat) (j : JL) (u e' a' : Nat) (v : Value) (ks : List RecR) (S : Dsk) (e : Ending) (w' : World) : Prop :=
  e = .returned (.int .i64 0) ∧ ∃ y', y'.abs = S ∧ y'.D = j.y.D ∧ JOK w' base { j with y := y', use := (u : Int), epoch := (e' : Int), at_ := (a' : Int), v := v, rs := ks } ∧ FootD w j.G j.y y' w'
/-- What a log that is to be turned says of itself. -/
structure TurnP (j : JL) (f h u e : Nat) (ks : List RecR) : Prop where
  ffrom : j.from_ = (f : Int)
  fhalf : j.half = (h : Int)
  fsize : j.size = (j.y.size : Int)
  fuse : j.use = (u : Int)
  fe : j.epoch = (e : Int)
  hu : u ≤ 1
  hB : Base j.y.abs (f + (1 - u) * h) (f + u * h) h (e + 1) (ks.map RecR.abs)
  hw : j.y.wp.length ≤ 200000
theorem TurnR.gkP {w wr : World} {base : Nat} {j : JL} {v : Value} {ks : List RecR} {S : Dsk} {y' : Lay} {f h u e : Nat} (t : TurnR w base j v ks S wr y') (hP : TurnP j f h u e ks) : Blk wr j.G 168 #[.pointer (some ⟨y'.D, 0, none⟩), .int .i64 (f : Int), .int .i64 (h : Int), .int .i64 (j.y.size : Int), .int .i64 (u : Int), .int .i64 (e : Int), .int .i64 j.at_, j.v] := by
  have := t.ok.gk
  unfold JL.cells at this
  simp only [hP.ffrom, hP.fhalf, hP.fsize, hP.fuse, hP.fe] at this
  exact this
/-- The end: its struct is stored. -/
theorem TurnR.stored {w wr : World} {base : Nat} {j : JL} {v : Value} {ks : List RecR} {S : Dsk} {y' : Lay} {f h u e : Nat} (t : TurnR w base j v ks S wr y') (hP : TurnP j f h u e ks) (a u' e' : Nat) :
    RetTurn w base j u' e' a v ks S (.returned (.int .i64 0)) ((((wr.setCell ⟨j.G, 4, none⟩ (.int .i64 (u' : Int))).setCell ⟨j.G, 5, none⟩ (.int .i64 (e' : Int))).setCell ⟨j.G, 6, none⟩ (.int .i64 (a : Int))).setCell ⟨j.G, 7, none⟩ v) := by
  have gk := t.gkP hP
  have K : Kept (fun k => k = j.G) wr ((((wr.setCell ⟨j.G, 4, none⟩ (.int .i64 (u' : Int))).setCell ⟨j.G, 5, none⟩ (.int .i64 (e' : Int))).setCell ⟨j.G, 6, none⟩ (.int .i64 (a : Int))).setCell ⟨j.G, 7, none⟩ v) := ((((Kept.refl (fun k => k = j.G) wr).setCell (p := ⟨j.G, 4, none⟩) (.inl rfl) _).setCell (p := ⟨j.G, 5, none⟩) (.inl rfl) _).setCell (p := ⟨j.G, 6, none⟩) (.inl rfl) _).setCell (p := ⟨j.G, 7, none⟩) (.inl rfl) _
  have g1 := (((gk.set_ 4 (.int .i64 (u' : Int))).set_ 5 (.int .i64 (e' : Int))).set_ 6 (.int .i64 (a : Int))).set_ 7 v
  refine ⟨rfl, y', t.abs, t.D, t.ok.struct (j' := { j with y := y', use := (u' : Int), epoch := (e' : Int), at_ := (a : Int), v := v, rs := ks }) K rfl rfl ?_ t.kp, t.fn.trans (FootD.struct K)⟩
  unfold JL.cells
  simp only [hP.ffrom, hP.fhalf, hP.fsize]
  exact g1
theorem TurnR.storedAt {w wr : World} {base : Nat} {j : JL} {v : Value} {ks : List RecR} {S : Dsk} {y' : Lay} {f h u e : Nat} (t : TurnR w base j v ks S wr y') (hP : TurnP j f h u e ks) (a u' e' : Nat) (z : Nat) (hz : a = z) :
    RetTurn w base j u' e' z v ks S (.returned (.int .i64 0)) ((((wr.setCell ⟨j.G, 4, none⟩ (.int .i64 (u' : Int))).setCell ⟨j.G, 5, none⟩ (.int .i64 (e' : Int))).setCell ⟨j.G, 6, none⟩ (.int .i64 (a : Int))).setCell ⟨j.G, 7, none⟩ v) := by
  subst hz
  exact t.stored hP a u' e'
end Go.Proofs.YtendnkklbeiegaaGreatDoor
namespace Go.Proofs.YtendnkklbeiegaaGreatDoor
open Go.RowKit DiskP SumP PageP JourP

/-- What a log that is to be loaded says of itself, and its disk. -/
structure LoadP (j : JL) (f h u e : Nat) (rs : List Rec) (lasts : Nat) : Prop where
  ffrom : j.from_ = (f : Int)
  fhalf : j.half = (h : Int)
  fsize : j.size = (j.y.size : Int)
  fuse : j.use = (u : Int)
  fe : j.epoch = (e : Int)
  hu : u ≤ 1
  hD : Dam j.y.abs (f + u * h) (f + (1 - u) * h) h e rs lasts
/-- The first k records are loaded. -/
def JL.got (j : JL) (a : Int) (v : Value) (xs : List RecR) : JL := { j with at_ := a, v := v, rs := xs }
structure LoadR (w : World) (base : Nat) (j : JL) (b : Nat) (rs : List Rec) (k : Nat) (v : Value) (xs : List RecR) (wr : World) : Prop where
  hk : k ≤ rs.length
  xa : xs.map RecR.abs = rs.take k
  ok : JOK wr base (j.got ((b + pos j.y.size rs k : Nat) : Int) v xs)
  fn : FootN w j (j.got ((b + pos j.y.size rs k : Nat) : Int) v xs) wr
def LoadX (w : World) (base : Nat) (j : JL) (b : Nat) (rs : List Rec) (k : Nat) (wr : World) : Prop := ∃ v xs, LoadR w base j b rs k v xs wr
theorem LoadR.len {w wr : World} {base : Nat} {j : JL} {b k : Nat} {rs : List Rec} {v : Value} {xs : List RecR} (h : LoadR w base j b rs k v xs wr) : xs.length = k := by
  have := congrArg List.length h.xa
  rw [List.length_map, List.length_take] at this
  have := h.hk
  omega
theorem LoadR.below {w wr w4 : World} {base : Nat} {j : JL} {b k : Nat} {rs : List Rec} {v : Value} {xs : List RecR} (h : LoadR w base j b rs k v xs wr) (bl : Below wr.heap.size wr w4) : LoadR w base j b rs k v xs w4 := ⟨h.hk, h.xa, h.ok.below bl, h.fn.trans (FootN.below bl)⟩
/-- Where all sectors are done all records are loaded. -/
theorem pos_full {size h : Nat} {rs : List Rec} (h1 : 19 ≤ size) (h2 : size ≤ 4096) (hs : ∀ r ∈ rs, r.body.length ≤ 4000) (hr : 1 + sumNd size rs ≤ h) {k : Nat} (hk : k ≤ rs.length) (hf : h ≤ pos size rs k) : k = rs.length := by
  rcases Nat.lt_or_ge k rs.length with hlt | hge
  · exfalso
    have hr' : rs[k]? = some rs[k] := List.getElem?_eq_getElem hlt
    have hp := pos_succ (size := size) hr'
    have hle := pos_le (size := size) (rs := rs) (k := k + 1) (by omega)
    have hn := nd_pos h1 h2 (r := rs[k]) (by have := hs rs[k] (List.getElem_mem hlt); omega)
    omega
  · omega
/-- One record more. -/
theorem LoadR.push {w w0 wr w3 w4 : World} {base : Nat} {j : JL} {b k : Nat} {rs : List Rec} {v v4 : Value} {xs : List RecR} {x : RecR} {r : Rec} {a : Nat} (h : LoadR w base j b rs k v xs wr) (hr : rs[k]? = some r) (hx : x.abs = r)
    (b3 : Below wr.heap.size wr w3) (o3 : RecOK w3 (fun k => k < wr.heap.size) x) (b4 : Below w3.heap.size w3 w0)
    (own4 : w4.ownsRow base 107 2 v4 (xs.length + 1) (rC xs ++ x.cells)) (gr : w0.grownBy w4 v.ownBlock) (hv : v4.ownBlock = v.ownBlock ∨ v4.ownBlock = some w0.heap.size) (ha : a = b + pos j.y.size rs (k + 1)) :
    LoadX w base j b rs (k + 1) ((w4.setCell ⟨j.G, 7, none⟩ v4).setCell ⟨j.G, 6, none⟩ (.int .i64 (a : Int))) := by
  subst ha
  have hlt := (List.getElem?_eq_some_iff.1 hr).1
  have b0 := b3.trans (b4.mono b3.size)
  obtain ⟨t1, t2⟩ := h.ok.append (w3 := w0) (w4 := w4) (xs := [x]) (v4 := v4) b0 (fun z hz => by
    simp at hz
    subst hz
    exact ((o3.below b4).mono fun k _ hk => (h.ok.foot_lt hk).2)) (by rw [show rC [x] = x.cells by simp [rC]]; exact own4) gr hv
  obtain ⟨s1, _⟩ := t1.setAt ((b + pos j.y.size rs (k + 1) : Nat) : Int)
  have s2 := FootN.setAt t1 ((b + pos j.y.size rs (k + 1) : Nat) : Int)
  refine ⟨v4, xs ++ [x], by omega, ?_, s1, (h.fn.trans t2).trans s2⟩
  rw [List.map_append, h.xa, List.map_singleton, hx]
  obtain ⟨_, rfl⟩ := List.getElem?_eq_some_iff.1 hr
  rw [List.take_succ_eq_append_getElem hlt]
theorem rec_one (k : Int) (A : Option Addr) (n c : Nat) : ∀ u ∈ [Value.int .u8 k, Value.slice A n c], u.oneCell' = true := by
  intro u hu
  simp only [List.mem_cons, List.not_mem_nil, or_false] at hu
  rcases hu with rfl | rfl <;> rfl
/-- What load gives back. -/
def RetLoad (w : World) (base : Nat) (j : JL) (rs : List Rec) (lasts : Nat) (e : Ending) (w' : World) : Prop :=
  e = .returned (.int .i64 0) ∧ ∃ k a v xs, lasts ≤ k ∧ k ≤ rs.length ∧ xs.map RecR.abs = rs.take k ∧ JOK w' base (j.got a v xs) ∧ FootN w j (j.got a v xs) w'
end Go.Proofs.YtendnkklbeiegaaGreatDoor
