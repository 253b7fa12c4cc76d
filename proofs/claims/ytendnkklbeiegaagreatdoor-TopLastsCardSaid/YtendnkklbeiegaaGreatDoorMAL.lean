/-
  The walk of package page's read, whole.
-/
import Derived.Test.YtendnkklbeiegaaGreatDoorPageWalkE
import Derived.Test.YtendnkklbeiegaaGreatDoorPageWalkC
import Derived.Test.YtendnkklbeiegaaGreatDoorMAF
namespace Go.Proofs.YtendnkklbeiegaaGreatDoor
open Go.RowKit DiskP SumP PageP

theorem rd_calls (l : List UInt8) (g cap : Nat) (w : World) (hT : Tab w) (hR : RB w (some ⟨g, 0, none⟩) l) (hl : l.length ≤ 4096) (hcap : l.length ≤ cap) :
    Calls Tryz.prog 128 #[.slice (some ⟨g, 0, none⟩) l.length cap] w (RetRd w l g) := by
  by_cases h : 19 ≤ l.length
  · by_cases hs : beN (l.drop (l.length - 4)) = crc (l.take (l.length - 4))
    · obtain ⟨k0, hk0⟩ : ∃ k, l[0]? = some k := ⟨_, List.getElem?_eq_getElem (by omega)⟩
      obtain ⟨k13, hk13⟩ : ∃ k, l[13]? = some k := ⟨_, List.getElem?_eq_getElem (by omega)⟩
      obtain ⟨p, hlp⟩ : ∃ p, l.length = p + 18 := ⟨l.length - 18, by omega⟩
      obtain ⟨NL, hnl⟩ : ∃ n, beN (PageP.sub l 9 13) = n := ⟨_, rfl⟩
      exact rd_right l g cap w hT hR hl hcap h hs k0 k13 hk0 hk13 p NL hlp hnl
    · exact rd_sum l g cap w hT hR hl hcap h hs
  · exact rd_short l g cap w (by omega)
theorem rd_facts {l : List UInt8} {x : Sec} (h : rd l = some x) : x.left ≤ 1073741824 ∧ x.bytes.length ≤ x.left ∧ x.bytes = PageP.sub l 14 (14 + x.bytes.length) ∧ 14 + x.bytes.length ≤ l.length ∧ x.bytes.length ≤ l.length := by
  unfold rd at h
  split at h
  · rename_i hok
    injection h with h
    subst h
    unfold rdOK at hok
    simp only [Bool.and_eq_true, decide_eq_true_eq] at hok
    obtain ⟨⟨⟨⟨⟨⟨h19, _⟩, _⟩, _⟩, hbig⟩, _⟩, _⟩ := hok
    have hm : rdMany l ≤ l.length - 4 - 14 := Nat.min_le_right _ _
    have hm2 : rdMany l ≤ beN (PageP.sub l 9 13) := Nat.min_le_left _ _
    have e : (PageP.sub l 14 (14 + rdMany l)).length = rdMany l := by rw [sub_len _ _ _ (by omega)]; omega
    unfold rdS
    simp only
    rw [e]
    exact ⟨hbig, hm2, rfl, by omega, by omega⟩
  · cases h
end Go.Proofs.YtendnkklbeiegaaGreatDoor
namespace Go.Proofs.YtendnkklbeiegaaGreatDoor
open Go.RowKit DiskP SumP PageP

theorem read_len {w : World} {base : Nat} {y : Lay} (h : DiskOK w base y) {n : Int} (hE : y.abs.readE n = 0) : (y.abs.readL n).length = y.size := by
  unfold Dsk.readL Dsk.readB
  rw [if_pos hE]
  unfold Dsk.readE at hE
  rw [abs_told] at hE ⊢
  split at hE
  · cases hE
  · split at hE
    · cases hE
    · rw [List.getElem?_map] at hE ⊢
      cases hp : y.tp[n.toNat]? with
      | none => rw [hp] at hE; cases hE
      | some p =>
        rw [hp] at hE
        cases p with
        | none => simp [ptrS, zeroS]
        | some c =>
          have hc : y.ids c := tp_ids y (List.mem_of_getElem? hp)
          have bk := h.bk c hc
          cases hs : (y.sect c).bytes with
          | none => simp [ptrS, hs] at hE
          | some l =>
            rw [hs] at bk
            simp [ptrS, hs]
            exact bk.1
theorem pread_ok (y : Lay) (n : Int) (w : World) (base : Nat) (h : DiskOK w base y) (hE : y.abs.readE n = 0) :
    Calls Tryz.prog 126 #[.pointer (some ⟨y.D, 0, none⟩), .int .i64 n] w fun e w' => ∃ g cap, e = .returned (.tuple #[.slice (some ⟨g, 0, none⟩) y.size cap, .int .i64 0]) ∧ y.size ≤ cap ∧ w.heap.size ≤ g ∧ RB w' (some ⟨g, 0, none⟩) (y.abs.readL n) ∧ Below w.heap.size w w' := by
  refine (read_calls y n w base h).mono ?_
  rintro e w' ⟨v, rfl, own, bel⟩
  have hl := read_len h hE
  have h1 := h.s1
  rw [hE]
  rcases own.2 with ⟨_, h0⟩ | ⟨g, cap, cur, rfl, hgb, _, hc, _⟩
  · omega
  · rw [hl] at own hc ⊢
    exact ⟨g, cap, rfl, hc, hgb, RV.of_own own, bel⟩
theorem pread_no (y : Lay) (n : Int) (w : World) (base : Nat) (h : DiskOK w base y) (E : Int) (hE : y.abs.readE n = E) :
    Calls Tryz.prog 126 #[.pointer (some ⟨y.D, 0, none⟩), .int .i64 n] w fun e w' => ∃ v, e = .returned (.tuple #[v, .int .i64 E]) ∧ Below w.heap.size w w' := by
  refine (read_calls y n w base h).mono ?_
  rintro e w' ⟨v, rfl, own, bel⟩
  exact ⟨v, by rw [hE], bel⟩
theorem rd_none (l : List UInt8) (m g cap : Nat) (w : World) (hT : Tab w) (hR : RB w (some ⟨g, 0, none⟩) l) (hm : l.length = m) (hl : m ≤ 4096) (hcap : m ≤ cap) (h : rd l = none) :
    Calls Tryz.prog 128 #[.slice (some ⟨g, 0, none⟩) m cap] w fun e w' => e = .returned (.tuple #[.agg #[.int .u8 0, .int .i64 0, .int .u64 0, .bool false, .slice none 0 0], .bool false]) ∧ Below w.heap.size w w' := by
  subst hm
  refine (rd_calls l g cap w hT hR hl hcap).mono ?_
  rintro e w' ⟨bel, he⟩
  rw [h] at he
  exact ⟨he, bel⟩
theorem rd_some (l : List UInt8) (m g cap : Nat) (w : World) (hT : Tab w) (hR : RB w (some ⟨g, 0, none⟩) l) (hm : l.length = m) (hl : m ≤ 4096) (hcap : m ≤ cap) (x : Sec) (h : rd l = some x) :
    Calls Tryz.prog 128 #[.slice (some ⟨g, 0, none⟩) m cap] w fun e w' => ∃ c, e = .returned (.tuple #[.agg #[.int .u8 (x.kind.toNat : Int), .int .i64 x.mark, .int .u64 (x.left : Int), .bool x.first, .slice (some ⟨g, 14, none⟩) x.bytes.length c], .bool true]) ∧ RB w' (some ⟨g, 14, none⟩) x.bytes ∧ Below w.heap.size w w' := by
  subst hm
  refine (rd_calls l g cap w hT hR hl hcap).mono ?_
  rintro e w' ⟨bel, he⟩
  rw [h] at he
  obtain ⟨c, he⟩ := he
  refine ⟨c, he, ?_, bel⟩
  have := (RB.sub hR 14 (14 + x.bytes.length)).below bel
  rw [Nat.zero_add] at this
  rw [(rd_facts h).2.2.1]
  exact this
/-- What Get gives back. -/
def RetGet (w : World) (R : Int × UInt8 × Int × List UInt8 × Int) (e : Ending) (w' : World) : Prop :=
  ∃ v, e = .returned (.tuple #[.int .u8 (R.2.1.toNat : Int), .int .i64 R.2.2.1, v, .int .i64 R.2.2.2.2, .int .i64 R.1]) ∧ w'.ownsRow w.heap.size 5 1 v R.2.2.2.1.length (cB R.2.2.2.1) ∧ Below w.heap.size w w'
theorem RetGet.no {w w' : World} {R : Int × UInt8 × Int × List UInt8 × Int} {E : Int} (h : R = (E, 0, 0, [], 0)) (bel : Below w.heap.size w w') : RetGet w R (.returned (.tuple #[.int .u8 0, .int .i64 0, .slice none 0 0, .int .i64 0, .int .i64 E])) w' := by
  subst h
  exact ⟨_, rfl, World.ownsRow_nil _ _ _ _, bel⟩
theorem RetGet.yes {w w' : World} {R : Int × UInt8 × Int × List UInt8 × Int} {kind : UInt8} {mark : Int} {out : List UInt8} {n : Int} {v : Value} (h : R = (0, kind, mark, out, n)) (own : w'.ownsRow (w.heap.size + 1) 5 1 v out.length (cB out)) (bel : Below w.heap.size w w') :
    RetGet w R (.returned (.tuple #[.int .u8 (kind.toNat : Int), .int .i64 mark, v, .int .i64 n, .int .i64 0])) w' := by
  subst h
  exact ⟨_, rfl, own_mono own (Nat.le_succ _), bel⟩
/-- A record that is being read. -/
structure Getting (w : World) (y : Lay) (a k : Nat) (hd : Sec) (sv : Value) (out : List UInt8) (v : Value) (wr : World) : Prop where
  own : wr.ownsRow (w.heap.size + 1) 5 1 v out.length (cB out)
  blk : Blk wr w.heap.size 221 #[.int .u8 (hd.kind.toNat : Int), .int .i64 hd.mark, .int .u64 (hd.left : Int), .bool hd.first, sv]
  bel : Below w.heap.size w wr
  req : getP y.abs (a : Int) (y.lp.length - a - k) k hd out = getR y.abs (a : Int)
  le : out.length ≤ hd.left
  big : hd.left ≤ 1073741824
  fst : k = 0 → out = []
section
variable {d : Dsk} {at_ : Int} {fuel k : Nat} {hd x : Sec} {out : List UInt8}
theorem getP_err (h : d.readE (at_ + (k : Int)) ≠ 0) : getP d at_ (fuel + 1) k hd out = (d.readE (at_ + (k : Int)), 0, 0, [], 0) := by
  conv => lhs; unfold getP
  rw [if_pos h]
theorem getP_plain (h : d.readE (at_ + (k : Int)) = 0) (hk : k = 0) (hp : plainB (d.readL (at_ + (k : Int))) = true) : getP d at_ (fuel + 1) k hd out = (2, 0, 0, [], 0) := by
  conv => lhs; unfold getP
  rw [if_neg (by rw [h]; simp), if_pos ⟨hk, hp⟩]
theorem getP_none (h : d.readE (at_ + (k : Int)) = 0) (hp : k = 0 → plainB (d.readL (at_ + (k : Int))) = false) (hr : rd (d.readL (at_ + (k : Int))) = none) : getP d at_ (fuel + 1) k hd out = (8, 0, 0, [], 0) := by
  conv => lhs; unfold getP
  rw [if_neg (by rw [h]; simp), if_neg (by rintro ⟨h0, h1⟩; rw [hp h0] at h1; cases h1), hr]
theorem getP_first (h : d.readE (at_ + (k : Int)) = 0) (hk : k = 0) (hp : plainB (d.readL (at_ + (k : Int))) = false) (hr : rd (d.readL (at_ + (k : Int))) = some x) (hf : x.first = false) : getP d at_ (fuel + 1) k hd out = (2, 0, 0, [], 0) := by
  conv => lhs; unfold getP
  rw [if_neg (by rw [h]; simp), if_neg (by rintro ⟨h0, h1⟩; rw [hp] at h1; cases h1), hr]
  simp only
  rw [if_pos ⟨hk, hf⟩]
theorem getP_head (h : d.readE (at_ + (k : Int)) = 0) (hk : k = 0) (hp : plainB (d.readL (at_ + (k : Int))) = false) (hr : rd (d.readL (at_ + (k : Int))) = some x) (hf : x.first = true) :
    getP d at_ (fuel + 1) k hd out = if (out ++ x.bytes).length = x.left then (0, x.kind, x.mark, out ++ x.bytes, (k : Int) + 1) else getP d at_ fuel (k + 1) x (out ++ x.bytes) := by
  conv => lhs; unfold getP
  rw [if_neg (by rw [h]; simp), if_neg (by rintro ⟨h0, h1⟩; rw [hp] at h1; cases h1), hr]
  simp only
  rw [if_neg (by rintro ⟨_, h1⟩; rw [hf] at h1; cases h1), if_neg (by omega), if_pos hk]
theorem getP_bad (h : d.readE (at_ + (k : Int)) = 0) (hk : 0 < k) (hr : rd (d.readL (at_ + (k : Int))) = some x) (hb : x.first = true ∨ x.kind ≠ hd.kind ∨ x.mark ≠ hd.mark ∨ x.left + out.length ≠ hd.left) : getP d at_ (fuel + 1) k hd out = (8, 0, 0, [], 0) := by
  conv => lhs; unfold getP
  rw [if_neg (by rw [h]; simp), if_neg (by omega), hr]
  simp only
  rw [if_neg (by omega), if_neg (show ¬ k = 0 by omega), if_pos ⟨hk, hb⟩]
theorem getP_next (h : d.readE (at_ + (k : Int)) = 0) (hk : 0 < k) (hr : rd (d.readL (at_ + (k : Int))) = some x) (h1 : x.first = false) (h2 : x.kind = hd.kind) (h3 : x.mark = hd.mark) (h4 : x.left + out.length = hd.left) :
    getP d at_ (fuel + 1) k hd out = if (out ++ x.bytes).length = hd.left then (0, hd.kind, hd.mark, out ++ x.bytes, (k : Int) + 1) else getP d at_ fuel (k + 1) hd (out ++ x.bytes) := by
  conv => lhs; unfold getP
  rw [if_neg (by rw [h]; simp), if_neg (by omega), hr]
  simp only
  rw [if_neg (by omega), if_neg (show ¬ k = 0 by omega), if_neg (by rintro ⟨_, h | h | h | h⟩; (rw [h1] at h; cases h); exact h h2; exact h h3; exact h h4)]
end
/-- The world behind a sector that was read: the sector's block X, the head's block. -/
structure Got (w : World) (X : Nat) (x : Sec) (xv : Value) (hd : Sec) (sv : Value) (g : Nat) (out : List UInt8) (v : Value) (w4 : World) : Prop where
  xk : Blk w4 X 221 #[.int .u8 (x.kind.toNat : Int), .int .i64 x.mark, .int .u64 (x.left : Int), .bool x.first, xv]
  zk : Blk w4 w.heap.size 221 #[.int .u8 (hd.kind.toNat : Int), .int .i64 hd.mark, .int .u64 (hd.left : Int), .bool hd.first, sv]
  bel : Below w.heap.size w w4
  own : w4.ownsRow (w.heap.size + 1) 5 1 v out.length (cB out)
  rb : RB w4 (some ⟨g, 14, none⟩) x.bytes
  lt : w.heap.size < X
  gt : w.heap.size < g
theorem Got.new {w w3 wr : World} {x : Sec} {xv : Value} {hd : Sec} {sv : Value} {g : Nat} {out : List UInt8} {v : Value} (z : Blk wr w.heap.size 221 #[.int .u8 (hd.kind.toNat : Int), .int .i64 hd.mark, .int .u64 (hd.left : Int), .bool hd.first, sv])
    (bel : Below w.heap.size w wr) (own : wr.ownsRow (w.heap.size + 1) 5 1 v out.length (cB out)) (b3 : Below wr.heap.size wr w3) (rb : RB w3 (some ⟨g, 14, none⟩) x.bytes) (hg : wr.heap.size ≤ g) :
    Got w w3.heap.size x xv hd sv g out v (w3.alloc (.cells #[.int .u8 (x.kind.toNat : Int), .int .i64 x.mark, .int .u64 (x.left : Int), .bool x.first, xv] 221)) where
  xk := Blk.new w3 _ _
  zk := (z.below b3 z.lt).alloc _
  bel := (bel.trans (b3.mono bel.size)).alloc (Nat.le_trans bel.size b3.size) _
  own := (own_below own b3 (fun k hk => (own.lt k hk).2)).alloc _
  rb := rb.alloc _
  lt := Nat.lt_of_lt_of_le z.lt b3.size
  gt := Nat.lt_of_lt_of_le z.lt hg
theorem rv_kept {w w' : World} {F : Nat → Prop} {A : Option Addr} {vs : List Value} (h : RV w A vs) (hk : Kept F w w') (hA : ∀ a, A = some a → ¬ F a.block) : RV w' A vs := by
  intro hl
  obtain ⟨b, off, e, hb, hc⟩ := h hl
  refine ⟨b, off, e, Nat.lt_of_lt_of_le hb hk.size, fun j c hj => ?_⟩
  have := hk.block b hb (hA _ e)
  rw [← hc j c hj]
  unfold World.cell?
  rw [this]
theorem kept5 (w : World) (A : Nat) (c0 c1 c2 c3 c4 : Value) : Kept (fun k => k = A) w (((((w.setCell ⟨A, 0, none⟩ c0).setCell ⟨A, 1, none⟩ c1).setCell ⟨A, 2, none⟩ c2).setCell ⟨A, 3, none⟩ c3).setCell ⟨A, 4, none⟩ c4) := by
  have one : ∀ {u v : World} (i : Nat) (c : Value), Kept (fun k => k = A) u v → Kept (fun k => k = A) u (v.setCell ⟨A, i, none⟩ c) := fun i c h => Kept.setCell h (p := ⟨A, i, none⟩) (Or.inl rfl) c
  exact one 4 c4 (one 3 c3 (one 2 c2 (one 1 c1 (one 0 c0 (Kept.refl _ _)))))
/-- The sector is the head now. -/
theorem Got.head {w w4 : World} {X : Nat} {x : Sec} {xv : Value} {hd : Sec} {sv : Value} {g : Nat} {out : List UInt8} {v : Value} (G : Got w X x xv hd sv g out v w4) :
    Got w X x xv x xv g out v (((((w4.setCell ⟨w.heap.size, 0, none⟩ (.int .u8 (x.kind.toNat : Int))).setCell ⟨w.heap.size, 1, none⟩ (.int .i64 x.mark)).setCell ⟨w.heap.size, 2, none⟩ (.int .u64 (x.left : Int))).setCell ⟨w.heap.size, 3, none⟩ (.bool x.first)).setCell ⟨w.heap.size, 4, none⟩ xv) := by
  have K := kept5 w4 w.heap.size (.int .u8 (x.kind.toNat : Int)) (.int .i64 x.mark) (.int .u64 (x.left : Int)) (.bool x.first) xv
  have hlt := G.lt
  refine ⟨(K.block X G.xk.lt (by omega)).trans G.xk, ?_, below5 G.bel _ _ _ _ _, own_frame G.own (fun k hk => K.block k (G.own.lt k hk).2 (by have := (G.own.lt k hk).1; omega)), rv_kept G.rb K (fun a ha => by injection ha with ha; subst ha; have := G.gt; show ¬ g = w.heap.size; omega), G.lt, G.gt⟩
  have := (((((G.zk.set_ 0 (.int .u8 (x.kind.toNat : Int))).set_ 1 (.int .i64 x.mark)).set_ 2 (.int .u64 (x.left : Int))).set_ 3 (.bool x.first)).set_ 4 xv)
  simpa using this
/-- Behind the append. -/
theorem Got.more {w w4 w5 : World} {X : Nat} {x : Sec} {xv : Value} {hd : Sec} {sv : Value} {g n m : Nat} {out b : List UInt8} {v v' : Value} (G : Got w X x xv hd sv g out v w4)
    (own : w5.ownsRow (w.heap.size + 1) 5 1 v' (n + m) (cB out ++ cB b)) (hn : n = out.length) (hm : m = b.length) (gr : w4.grownBy w5 v.ownBlock) :
    Blk w5 w.heap.size 221 #[.int .u8 (hd.kind.toNat : Int), .int .i64 hd.mark, .int .u64 (hd.left : Int), .bool hd.first, sv] ∧ Below w.heap.size w w5 ∧ w5.ownsRow (w.heap.size + 1) 5 1 v' (out ++ b).length (cB (out ++ b)) := by
  subst hn hm
  refine ⟨(gr.block _ G.zk.lt (fun e => by have := (G.own.lt _ e.symm).1; omega)).trans G.zk, G.bel.grown gr G.bel.size (fun k hk => by have := (G.own.lt _ hk).1; omega), ?_⟩
  rw [cB_append, List.length_append]
  exact own
set_option maxHeartbeats 6400000 in
set_option maxRecDepth 100000 in
theorem pget_on (y : Lay) (a : Nat) (w : World) (base : Nat) (h : DiskOK w base y) (hT : Tab w) (ha : a < y.lp.length) : Calls Tryz.prog 82 #[.pointer (some ⟨y.D, 0, none⟩), .int .i64 (a : Int)] w (RetGet w (getR y.abs (a : Int))) := by
  have hl2 := h.l2
  have hs2 := h.s2
  have hs1 := h.s1
  have d0 : decide ((a : Int) < 0) = false := decide_eq_false (by omega)
  have d1 : decide ((y.lp.length : Int) ≤ (a : Int)) = false := by simp; omega
  have d1' : decide (y.lp.length ≤ a) = false := decide_eq_false (by omega)
  have hlen : y.abs.last.length = y.lp.length := by simp [Lay.abs]
  have HR : Hid (getR y.abs (a : Int) = getP y.abs (a : Int) (y.lp.length - a) 0 ⟨0, 0, 0, false, []⟩ []) := by
    show _ = _
    unfold getR
    rw [if_neg (by unfold Dsk.has; rw [hlen]; first | (simp; done) | (simp; omega)), hlen, Int.toNat_natCast]
  generalize hRR : getR y.abs (a : Int) = RR at *
  have B0 : ∀ q, Below w.heap.size w (w.drewN q) := fun q => ⟨rfl, rfl, rfl, Nat.le_refl _, fun _ _ => rfl⟩
  go_enter Tryz.func82, Tryz.ntmps82
  go_wp2_with (go_at_call 27; refine (size_calls y w base h).mono ?_; rintro e w0 ⟨rfl, q, rfl⟩)
  go_loopw [12, 13] (fun v i wr => ∃ (k : Nat) (hd : Sec) (sv : Value) (out : List UInt8), a + k ≤ y.lp.length ∧ i = .int .i64 k ∧ Getting w y a k hd sv out v wr) (fun _ i _ => y.lp.length + 1 - (intOf i).toNat)
  case atStart =>
    refine ⟨0, ⟨0, 0, 0, false, []⟩, .slice none 0 0, [], by omega, rfl, World.ownsRow_nil _ _ _ _, Blk.new (w.drewN q) 221 _, (B0 q).alloc (Nat.le_refl _) _, ?_, Nat.le_refl _, by decide, fun _ => rfl⟩
    rw [Nat.sub_zero, ← HR.out, hRR]
  case round =>
    obtain ⟨k, hd, sv, out, hk, rfl, G⟩ := hrel
    clear HR
    obtain ⟨own, blk, bel, req, le, big, fst⟩ := G
    rw [hRR] at req
    obtain ⟨AV, cV, rfl, _, _⟩ := own_form own
    by_cases hend : a + k = y.lp.length
    · have hRR8 : RR = (8, 0, 0, [], 0) := by rw [← req, show y.lp.length - a - k = 0 by omega]; rfl
      have HE := Lib.hid (fun (w' : World) (hb : Below w.heap.size w w') => RetGet.no hRR8 hb)
      have e1 : ((a : Int) + (k : Int) == (y.lp.length : Int)) = true := by simp; omega
      clear hRR8 req fst own blk
      go_wp2
      refine bodyPost_ret (v := .tuple #[.int .u8 0, .int .i64 0, .slice none 0 0, .int .i64 0, .int .i64 8]) (by simp [results, Tryz.results82, go_sem]) rfl (HE.out _ bel)
    · obtain ⟨f, hf⟩ : ∃ f, y.lp.length - a - k = f + 1 := ⟨y.lp.length - a - k - 1, by omega⟩
      have e1 : ((a : Int) + (k : Int) == (y.lp.length : Int)) = false := by simp; omega
      have hr := h.below (Below.mono bel (Nat.le_refl _))
      have hTr := hT.far (Kept.of_below bel (fun _ => False)) (fun h => h)
      rw [hf] at req
      have HRQ := Lib.hid req
      clear req
      have HFU := Lib.hid hf
      clear hf
      by_cases hE : y.abs.readE ((a : Int) + (k : Int)) = 0
      · by_cases hk0 : k = 0
        · have ez : ((k : Int) == 0) = true := by simp; omega
          have gz : decide (0 < (k : Int)) = false := decide_eq_false (by omega)
          have gz' : decide (0 < k) = false := decide_eq_false (by omega)
          have HK := Lib.hid hk0
          obtain rfl : out = [] := fst hk0
          clear fst hk0
          have CR := pread_ok y ((a : Int) + (k : Int)) wr base hr hE
          have HL := fun (l : List UInt8) (e : y.abs.readL ((a : Int) + (k : Int)) = l) => (show l.length = y.size by rw [← e]; exact read_len h hE)
          obtain ⟨l, hl⟩ : ∃ l, y.abs.readL ((a : Int) + (k : Int)) = l := ⟨_, rfl⟩
          have hll := HL l hl
          rw [hl] at CR
          have HP0 : Hid (plainB l = true → RR = (2, 0, 0, [], 0)) := fun hp => by rw [← HRQ.out, getP_plain hE HK.out (by rw [hl]; exact hp)]
          have HP1 : Hid (plainB l = false → rd l = none → RR = (8, 0, 0, [], 0)) := fun hp hn => by rw [← HRQ.out, getP_none hE (fun _ => by rw [hl]; exact hp) (by rw [hl]; exact hn)]
          have HP2 : Hid (∀ x, plainB l = false → rd l = some x → x.first = false → RR = (2, 0, 0, [], 0)) := fun x hp hn hf => by rw [← HRQ.out, getP_first hE HK.out (by rw [hl]; exact hp) (by rw [hl]; exact hn) hf]
          have HP3 : Hid (∀ x, plainB l = false → rd l = some x → x.first = true → RR = if x.bytes.length = x.left then (0, x.kind, x.mark, x.bytes, (k : Int) + 1) else getP y.abs (a : Int) f (k + 1) x x.bytes) := fun x hp hn hf => by
            have := getP_head (fuel := f) (hd := hd) (out := []) hE HK.out (by rw [hl]; exact hp) (by rw [hl]; exact hn) hf
            rw [HRQ.out, List.nil_append] at this
            exact this
          clear HL hl hE HRQ
          go_wp2_with fail
          refine CR.mono ?_
          rintro e w2 ⟨g, cap, rfl, hcap, hgb, rb, b2⟩
          clear CR
          cases hp : plainB l with
          | true =>
            have PL := plain_len l y.size (some ⟨g, 0, none⟩) cap w2 rb hll (by omega)
            rw [hp] at PL
            have HE := Lib.hid (fun (w' : World) (hb : Below w.heap.size w w') => RetGet.no (HP0.out hp) hb)
            clear hp HP0 HP1 HP2 HP3 own blk
            go_wp2_with fail
            refine PL.mono ?_
            rintro e w3 ⟨rfl, rfl⟩
            clear PL
            go_wp2
            refine bodyPost_ret (v := .tuple #[.int .u8 0, .int .i64 0, .slice none 0 0, .int .i64 0, .int .i64 2]) (by simp [results, Tryz.results82, go_sem]) rfl (HE.out _ (bel.trans (b2.mono bel.size)))
          | false =>
            have PL := plain_len l y.size (some ⟨g, 0, none⟩) cap w2 rb hll (by omega)
            rw [hp] at PL
            have hT2 := hTr.far (Kept.of_below b2 (fun _ => False)) (fun h => h)
            cases hrd : rd l with
            | none =>
              have RD := rd_none l y.size g cap w2 hT2 rb hll hs2 hcap hrd
              have HE := Lib.hid (fun (w' : World) (hb : Below w.heap.size w w') => RetGet.no (HP1.out hp hrd) hb)
              clear hp hrd HP0 HP1 HP2 HP3
              go_wp2_with fail
              refine PL.mono ?_
              rintro e w3 ⟨rfl, rfl⟩
              clear PL
              go_wp2_with fail
              refine RD.mono ?_
              rintro e w3 ⟨rfl, b3⟩
              clear RD
              have G4 := Got.new (x := ⟨0, 0, 0, false, []⟩) (xv := .slice none 0 0) (g := g) blk bel own (b2.trans (b3.mono b2.size)) RB.nil hgb
              go_wp2_with ((with_reducible show wpList _ _ _ (⟨some 73, _, _, _, _, _⟩ :: _) _ _); refine wpList_abs (Got w w3.heap.size ⟨0, 0, 0, false, []⟩ (.slice none 0 0) hd sv g [] (.slice AV 0 cV)) G4 ?_)
              rintro w4 ⟨x4, z4, b4, own4, rb4, lt4, gt4⟩
              have s0 : w4.cell? ⟨w3.heap.size, 0, none⟩ = some (.int .u8 0) := x4.at_ rfl
              have s1 : w4.cell? ⟨w3.heap.size, 1, none⟩ = some (.int .i64 0) := x4.at_ rfl
              have s2 : w4.cell? ⟨w3.heap.size, 2, none⟩ = some (.int .u64 0) := x4.at_ rfl
              have s3 : w4.cell? ⟨w3.heap.size, 3, none⟩ = some (.bool false) := x4.at_ rfl
              have s4 : w4.cell? ⟨w3.heap.size, 4, none⟩ = some (.slice none 0 0) := x4.at_ rfl
              have p0 : w4.cell? ⟨w.heap.size, 0, none⟩ = some (.int .u8 (hd.kind.toNat : Int)) := z4.at_ rfl
              have p1 : w4.cell? ⟨w.heap.size, 1, none⟩ = some (.int .i64 hd.mark) := z4.at_ rfl
              have p2 : w4.cell? ⟨w.heap.size, 2, none⟩ = some (.int .u64 (hd.left : Int)) := z4.at_ rfl
              have p3 : w4.cell? ⟨w.heap.size, 3, none⟩ = some (.bool hd.first) := z4.at_ rfl
              have p4 : w4.cell? ⟨w.heap.size, 4, none⟩ = some sv := z4.at_ rfl
              have y0 := z4.frozen 0
              have y1 := z4.frozen 1
              have y2 := z4.frozen 2
              have y3 := z4.frozen 3
              have y4 := z4.frozen 4
              clear x4 z4 own4 rb4 G4 own blk
              go_wp2
              refine bodyPost_ret (v := .tuple #[.int .u8 0, .int .i64 0, .slice none 0 0, .int .i64 0, .int .i64 8]) (by simp [results, Tryz.results82, go_sem]) rfl (HE.out _ (below5 b4 _ _ _ _ _))
            | some x =>
              obtain ⟨xk, xm, xl, xf, xb⟩ := x
              have RD := rd_some l y.size g cap w2 hT2 rb hll hs2 hcap _ hrd
              have FX := rd_facts hrd
              obtain ⟨fx1, fx2, -, -, fx3⟩ := FX
              simp only at fx1 fx2 fx3 RD
              cases xf with
              | false =>
                have HE := Lib.hid (fun (w' : World) (hb : Below w.heap.size w w') => RetGet.no (HP2.out _ hp hrd rfl) hb)
                clear hp hrd HP0 HP1 HP2 HP3
                go_wp2_with fail
                refine PL.mono ?_
                rintro e w3 ⟨rfl, rfl⟩
                clear PL
                go_wp2_with fail
                refine RD.mono ?_
                rintro e w3 ⟨c, rfl, rb3, b3⟩
                clear RD
                have G4 := Got.new (x := ⟨xk, xm, xl, false, xb⟩) (xv := (.slice (some ⟨g, 14, none⟩) xb.length c)) (g := g) blk bel own (b2.trans (b3.mono b2.size)) rb3 hgb
                go_wp2_with ((with_reducible show wpList _ _ _ (⟨some 67, _, _, _, _, _⟩ :: _) _ _); refine wpList_abs (Got w w3.heap.size ⟨xk, xm, xl, false, xb⟩ (.slice (some ⟨g, 14, none⟩) xb.length c) hd sv g [] (.slice AV 0 cV)) G4 ?_)
                rintro w4 ⟨x4, z4, b4, own4, rb4, lt4, gt4⟩
                have s0 : w4.cell? ⟨w3.heap.size, 0, none⟩ = some (.int .u8 (xk.toNat : Int)) := x4.at_ rfl
                have s1 : w4.cell? ⟨w3.heap.size, 1, none⟩ = some (.int .i64 xm) := x4.at_ rfl
                have s2 : w4.cell? ⟨w3.heap.size, 2, none⟩ = some (.int .u64 (xl : Int)) := x4.at_ rfl
                have s3 : w4.cell? ⟨w3.heap.size, 3, none⟩ = some (.bool false) := x4.at_ rfl
                have s4 : w4.cell? ⟨w3.heap.size, 4, none⟩ = some (.slice (some ⟨g, 14, none⟩) xb.length c) := x4.at_ rfl
                have p0 : w4.cell? ⟨w.heap.size, 0, none⟩ = some (.int .u8 (hd.kind.toNat : Int)) := z4.at_ rfl
                have p1 : w4.cell? ⟨w.heap.size, 1, none⟩ = some (.int .i64 hd.mark) := z4.at_ rfl
                have p2 : w4.cell? ⟨w.heap.size, 2, none⟩ = some (.int .u64 (hd.left : Int)) := z4.at_ rfl
                have p3 : w4.cell? ⟨w.heap.size, 3, none⟩ = some (.bool hd.first) := z4.at_ rfl
                have p4 : w4.cell? ⟨w.heap.size, 4, none⟩ = some sv := z4.at_ rfl
                have y0 := z4.frozen 0
                have y1 := z4.frozen 1
                have y2 := z4.frozen 2
                have y3 := z4.frozen 3
                have y4 := z4.frozen 4
                clear x4 z4 own4 rb4 G4 own blk
                go_wp2
                refine bodyPost_ret (v := .tuple #[.int .u8 0, .int .i64 0, .slice none 0 0, .int .i64 0, .int .i64 2]) (by simp [results, Tryz.results82, go_sem]) rfl (HE.out _ b4)
              | true =>
                have HQ := Lib.hid (HP3.out _ hp hrd rfl)
                clear hp hrd HP0 HP1 HP2 HP3
                go_wp2_with fail
                refine PL.mono ?_
                rintro e w3 ⟨rfl, rfl⟩
                clear PL
                go_wp2_with fail
                refine RD.mono ?_
                rintro e w3 ⟨c, rfl, rb3, b3⟩
                clear RD
                have G4 := Got.new (x := ⟨xk, xm, xl, true, xb⟩) (xv := (.slice (some ⟨g, 14, none⟩) xb.length c)) (g := g) blk bel own (b2.trans (b3.mono b2.size)) rb3 hgb
                go_wp2_with ((with_reducible show wpList _ _ _ (⟨some 67, _, _, _, _, _⟩ :: _) _ _); refine wpList_abs (Got w w3.heap.size ⟨xk, xm, xl, true, xb⟩ (.slice (some ⟨g, 14, none⟩) xb.length c) hd sv g [] (.slice AV 0 cV)) G4 ?_)
                intro w4 G5
                have G6 := G5.head
                obtain ⟨x4, z4, b4, own4, rb4, lt4, gt4⟩ := G5
                have s0 : w4.cell? ⟨w3.heap.size, 0, none⟩ = some (.int .u8 (xk.toNat : Int)) := x4.at_ rfl
                have s1 : w4.cell? ⟨w3.heap.size, 1, none⟩ = some (.int .i64 xm) := x4.at_ rfl
                have s2 : w4.cell? ⟨w3.heap.size, 2, none⟩ = some (.int .u64 (xl : Int)) := x4.at_ rfl
                have s3 : w4.cell? ⟨w3.heap.size, 3, none⟩ = some (.bool true) := x4.at_ rfl
                have s4 : w4.cell? ⟨w3.heap.size, 4, none⟩ = some (.slice (some ⟨g, 14, none⟩) xb.length c) := x4.at_ rfl
                have p0 : w4.cell? ⟨w.heap.size, 0, none⟩ = some (.int .u8 (hd.kind.toNat : Int)) := z4.at_ rfl
                have p1 : w4.cell? ⟨w.heap.size, 1, none⟩ = some (.int .i64 hd.mark) := z4.at_ rfl
                have p2 : w4.cell? ⟨w.heap.size, 2, none⟩ = some (.int .u64 (hd.left : Int)) := z4.at_ rfl
                have p3 : w4.cell? ⟨w.heap.size, 3, none⟩ = some (.bool hd.first) := z4.at_ rfl
                have p4 : w4.cell? ⟨w.heap.size, 4, none⟩ = some sv := z4.at_ rfl
                have y0 := z4.frozen 0
                have y1 := z4.frozen 1
                have y2 := z4.frozen 2
                have y3 := z4.frozen 3
                have y4 := z4.frozen 4
                clear x4 z4 own4 rb4 G4 own blk
                go_wp2_with ((with_reducible show wpList _ _ _ (⟨some 110, _, _, _, _, _⟩ :: _) _ _); refine wpList_abs (Got w w3.heap.size ⟨xk, xm, xl, true, xb⟩ (.slice (some ⟨g, 14, none⟩) xb.length c) ⟨xk, xm, xl, true, xb⟩ (.slice (some ⟨g, 14, none⟩) xb.length c) g [] (.slice AV 0 cV)) G6 ?_)
                intro w5 G7
                have u4c : w5.cell? ⟨w3.heap.size, 4, none⟩ = some (.slice (some ⟨g, 14, none⟩) xb.length c) := G7.xk.at_ rfl
                have own7 : w5.ownsRow (w.heap.size + 1) 5 1 (.slice AV 0 cV) 0 [] := G7.own
                have lt5 : w.heap.size + 1 ≤ w5.heap.size := G7.zk.lt
                clear s0 s1 s2 s3 s4 p0 p1 p2 p3 p4 y0 y1 y2 y3 y4 G6
                go_wp2_with ((with_reducible show wpList _ _ _ (⟨some 112, _, _, _, _, _⟩ :: _) _ _); refine wpList_append_rv el_u8 rfl (.tmp 109) (.tmp 111) rfl (w.heap.size + 1) (.slice AV 0 cV) 0 [] rfl own7 (some ⟨g, 14, none⟩) xb.length c (cB xb) rfl ?f1 G7.rb (cB_one xb) ?f2 ?f3 ?f4 ?_)
                case f1 => rw [cB_len]; omega
                case f2 => unfold maxLen; omega
                case f3 => omega
                case f4 => exact lt5
                intro v6 w6 own6 gr6 _
                obtain ⟨z6, b6, own6'⟩ := G7.more (out := []) (b := xb) (n := 0) (m := xb.length) (by rw [Nat.zero_add]; exact own6) rfl rfl gr6
                obtain ⟨A6, c6, hv6, _, _⟩ := own_form own6
                subst hv6
                rw [List.nil_append] at own6'
                have q0 : w6.cell? ⟨w.heap.size, 0, none⟩ = some (.int .u8 (xk.toNat : Int)) := z6.at_ rfl
                have q1 : w6.cell? ⟨w.heap.size, 1, none⟩ = some (.int .i64 xm) := z6.at_ rfl
                have q2 : w6.cell? ⟨w.heap.size, 2, none⟩ = some (.int .u64 (xl : Int)) := z6.at_ rfl
                clear own6 gr6 u4c own7 G7
                have wz : IntKind.u64.wrap (xb.length : Int) = (xb.length : Int) := by rw [u64_wrap]; omega
                by_cases hdone : xb.length = xl
                · have te : ((xb.length : Int) == (xl : Int)) = true := by simp; omega
                  have HY := Lib.hid (fun (w' : World) (own : w'.ownsRow (w.heap.size + 1) 5 1 (.slice A6 xb.length c6) xb.length (cB xb)) (hb : Below w.heap.size w w') => RetGet.yes (R := RR) (by rw [HQ.out, if_pos hdone]) own hb)
                  have HO := Lib.hid own6'
                  clear hdone own6' z6 HQ
                  go_wp2
                  go_quiet (fail)
                  go_wp2
                  refine bodyPost_ret (v := .tuple #[.int .u8 (xk.toNat : Int), .int .i64 xm, .slice A6 xb.length c6, .int .i64 ((k : Int) + 1), .int .i64 0]) (by simp [results, Tryz.results82, go_sem]) rfl (HY.out _ HO.out ⟨b6.os, b6.tape, b6.output, b6.size, b6.block⟩)
                · have te : ((xb.length : Int) == (xl : Int)) = false := by simp; omega
                  have HN := Lib.hid (show getP y.abs (a : Int) f (k + 1) ⟨xk, xm, xl, true, xb⟩ xb = RR by rw [HQ.out, if_neg hdone])
                  clear hdone HQ q0 q1
                  have HO := Lib.hid own6'
                  have HZ := Lib.hid z6
                  clear own6' z6
                  go_wp2
                  go_roundw
                  case rel =>
                    have hfu := HFU.out
                    exact ⟨k + 1, ⟨xk, xm, xl, true, xb⟩, _, xb, by omega, by go_num, HO.out, HZ.out, b6, by rw [hRR, show y.lp.length - a - (k + 1) = f by omega]; exact HN.out, fx2, fx1, fun h => by omega⟩
                  case measure => simp [intOf]; omega
        · have ez : ((k : Int) == 0) = false := by simp; omega
          have gz : decide (0 < (k : Int)) = true := decide_eq_true (by omega)
          have gz' : decide (0 < k) = true := decide_eq_true (by omega)
          have HK := Lib.hid (show 0 < k by omega)
          clear fst
          have CR := pread_ok y ((a : Int) + (k : Int)) wr base hr hE
          have HL := fun (l : List UInt8) (e : y.abs.readL ((a : Int) + (k : Int)) = l) => (show l.length = y.size by rw [← e]; exact read_len h hE)
          obtain ⟨l, hl⟩ : ∃ l, y.abs.readL ((a : Int) + (k : Int)) = l := ⟨_, rfl⟩
          have hll := HL l hl
          rw [hl] at CR
          obtain ⟨hkd, hmk, hlf, hff, hbs⟩ := hd
          simp only at blk le big
          have HP1 : Hid (rd l = none → RR = (8, 0, 0, [], 0)) := fun hn => by rw [← HRQ.out, getP_none hE (fun h0 => absurd h0 hk0) (by rw [hl]; exact hn)]
          have HP2 : Hid (∀ x, rd l = some x → (x.first = true ∨ x.kind ≠ hkd ∨ x.mark ≠ hmk ∨ x.left + out.length ≠ hlf) → RR = (8, 0, 0, [], 0)) := fun x hn hb => by rw [← HRQ.out, getP_bad hE HK.out (by rw [hl]; exact hn) hb]
          have HP3 : Hid (∀ x, rd l = some x → x.first = false → x.kind = hkd → x.mark = hmk → x.left + out.length = hlf → RR = if (out ++ x.bytes).length = hlf then (0, hkd, hmk, out ++ x.bytes, (k : Int) + 1) else getP y.abs (a : Int) f (k + 1) ⟨hkd, hmk, hlf, hff, hbs⟩ (out ++ x.bytes)) := fun x hn h1 h2 h3 h4 => by
            have := getP_next (fuel := f) (hd := ⟨hkd, hmk, hlf, hff, hbs⟩) (out := out) hE HK.out (by rw [hl]; exact hn) h1 h2 h3 h4
            rw [HRQ.out] at this
            exact this
          clear HL hl hE HRQ hk0
          go_wp2_with fail
          refine CR.mono ?_
          rintro e w2 ⟨g, cap, rfl, hcap, hgb, rb, b2⟩
          clear CR
          have hT2 := hTr.far (Kept.of_below b2 (fun _ => False)) (fun h => h)
          cases hrd : rd l with
          | none =>
            have RD := rd_none l y.size g cap w2 hT2 rb hll hs2 hcap hrd
            have HE := Lib.hid (fun (w' : World) (hb : Below w.heap.size w w') => RetGet.no (HP1.out hrd) hb)
            clear hrd HP1 HP2 HP3
            go_wp2_with fail
            refine RD.mono ?_
            rintro e w3 ⟨rfl, b3⟩
            clear RD
            have b3' := bel.trans ((b2.trans (b3.mono b2.size)).mono bel.size)
            clear own blk
            go_wp2
            refine bodyPost_ret (v := .tuple #[.int .u8 0, .int .i64 0, .slice none 0 0, .int .i64 0, .int .i64 8]) (by simp [results, Tryz.results82, go_sem]) rfl (HE.out _ (b3'.alloc b3'.size _))
          | some x =>
            obtain ⟨xk, xm, xl, xf, xb⟩ := x
            have RD := rd_some l y.size g cap w2 hT2 rb hll hs2 hcap _ hrd
            have FX := rd_facts hrd
            obtain ⟨fx1, fx2, -, -, fx3⟩ := FX
            simp only at fx1 fx2 fx3 RD
            have ws : IntKind.u64.wrap ((hlf : Int) - (out.length : Int)) = (hlf : Int) - (out.length : Int) := by rw [u64_wrap]; omega
            have wo : IntKind.u64.wrap (out.length : Int) = (out.length : Int) := by rw [u64_wrap]; omega
            by_cases hbad : xf = true ∨ xk ≠ hkd ∨ xm ≠ hmk ∨ xl + out.length ≠ hlf
            · have HE := Lib.hid (fun (w' : World) (hb : Below w.heap.size w w') => RetGet.no (HP2.out _ hrd hbad) hb)
              clear hrd HP1 HP2 HP3
              go_wp2_with fail
              refine RD.mono ?_
              rintro e w3 ⟨c, rfl, rb3, b3⟩
              clear RD
              have G4 := Got.new (x := ⟨xk, xm, xl, xf, xb⟩) (xv := (.slice (some ⟨g, 14, none⟩) xb.length c)) (hd := ⟨hkd, hmk, hlf, hff, hbs⟩) (g := g) blk bel own (b2.trans (b3.mono b2.size)) rb3 hgb
              go_wp2_with ((with_reducible show wpList _ _ _ (⟨some 80, _, _, _, _, _⟩ :: _) _ _); refine wpList_abs (Got w w3.heap.size ⟨xk, xm, xl, xf, xb⟩ (.slice (some ⟨g, 14, none⟩) xb.length c) ⟨hkd, hmk, hlf, hff, hbs⟩ sv g out (.slice AV out.length cV)) G4 ?_)
              rintro w4 ⟨x4, z4, b4, own4, rb4, lt4, gt4⟩
              have s0 : w4.cell? ⟨w3.heap.size, 0, none⟩ = some (.int .u8 (xk.toNat : Int)) := x4.at_ rfl
              have s1 : w4.cell? ⟨w3.heap.size, 1, none⟩ = some (.int .i64 xm) := x4.at_ rfl
              have s2 : w4.cell? ⟨w3.heap.size, 2, none⟩ = some (.int .u64 (xl : Int)) := x4.at_ rfl
              have s3 : w4.cell? ⟨w3.heap.size, 3, none⟩ = some (.bool xf) := x4.at_ rfl
              have p0 : w4.cell? ⟨w.heap.size, 0, none⟩ = some (.int .u8 (hkd.toNat : Int)) := z4.at_ rfl
              have p1 : w4.cell? ⟨w.heap.size, 1, none⟩ = some (.int .i64 hmk) := z4.at_ rfl
              have p2 : w4.cell? ⟨w.heap.size, 2, none⟩ = some (.int .u64 (hlf : Int)) := z4.at_ rfl
              clear x4 z4 own4 rb4 G4 own blk
              cases xf
              · have hbad' : xk ≠ hkd ∨ xm ≠ hmk ∨ xl + out.length ≠ hlf := by simpa using hbad
                clear hbad
                by_cases ck : xk = hkd
                · have tk : ((xk.toNat : Int) != (hkd.toNat : Int)) = false := by rw [ck]; simp
                  have hb2 : xm ≠ hmk ∨ xl + out.length ≠ hlf := by rcases hbad' with h | h; exact absurd ck h; exact h
                  clear hbad' ck
                  by_cases cm : xm = hmk
                  · have tm : (xm != hmk) = false := by rw [cm]; simp
                    have tl : ((xl : Int) != (hlf : Int) - (out.length : Int)) = true := by
                      have : xl + out.length ≠ hlf := by rcases hb2 with h | h; exact absurd cm h; exact h
                      simp; omega
                    clear hb2 cm
                    go_wp2
                    refine bodyPost_ret (v := .tuple #[.int .u8 0, .int .i64 0, .slice none 0 0, .int .i64 0, .int .i64 8]) (by simp [results, Tryz.results82, go_sem]) rfl (HE.out _ b4)
                  · have tm : (xm != hmk) = true := by simpa using cm
                    clear hb2 cm
                    go_wp2
                    refine bodyPost_ret (v := .tuple #[.int .u8 0, .int .i64 0, .slice none 0 0, .int .i64 0, .int .i64 8]) (by simp [results, Tryz.results82, go_sem]) rfl (HE.out _ b4)
                · have tk : ((xk.toNat : Int) != (hkd.toNat : Int)) = true := by
                    have : ¬ xk.toNat = hkd.toNat := fun e => ck (UInt8.toNat_inj.1 e)
                    simp; omega
                  clear hbad' ck
                  go_wp2
                  refine bodyPost_ret (v := .tuple #[.int .u8 0, .int .i64 0, .slice none 0 0, .int .i64 0, .int .i64 8]) (by simp [results, Tryz.results82, go_sem]) rfl (HE.out _ b4)
              · clear hbad
                go_wp2
                refine bodyPost_ret (v := .tuple #[.int .u8 0, .int .i64 0, .slice none 0 0, .int .i64 0, .int .i64 8]) (by simp [results, Tryz.results82, go_sem]) rfl (HE.out _ b4)
            · have hgood : xf = false ∧ xk = hkd ∧ xm = hmk ∧ xl + out.length = hlf := by
                refine ⟨?_, ?_, ?_, ?_⟩
                · cases xf; rfl; exact absurd (.inl rfl) hbad
                · exact Classical.byContradiction fun e => hbad (.inr (.inl e))
                · exact Classical.byContradiction fun e => hbad (.inr (.inr (.inl e)))
                · exact Classical.byContradiction fun e => hbad (.inr (.inr (.inr e)))
              clear hbad
              obtain ⟨rfl, rfl, rfl, h4⟩ := hgood
              have HQ := Lib.hid (HP3.out _ hrd rfl rfl rfl h4)
              clear hrd HP1 HP2 HP3
              have tk : ((xk.toNat : Int) != (xk.toNat : Int)) = false := by simp
              have tm : (xm != xm) = false := by simp
              have tl : ((xl : Int) != (hlf : Int) - (out.length : Int)) = false := by simp; omega
              go_wp2_with fail
              refine RD.mono ?_
              rintro e w3 ⟨c, rfl, rb3, b3⟩
              clear RD
              have G4 := Got.new (x := ⟨xk, xm, xl, false, xb⟩) (xv := (.slice (some ⟨g, 14, none⟩) xb.length c)) (hd := ⟨xk, xm, hlf, hff, hbs⟩) (g := g) blk bel own (b2.trans (b3.mono b2.size)) rb3 hgb
              go_wp2_with ((with_reducible show wpList _ _ _ (⟨some 80, _, _, _, _, _⟩ :: _) _ _); refine wpList_abs (Got w w3.heap.size ⟨xk, xm, xl, false, xb⟩ (.slice (some ⟨g, 14, none⟩) xb.length c) ⟨xk, xm, hlf, hff, hbs⟩ sv g out (.slice AV out.length cV)) G4 ?_)
              intro w5 G7
              have s0 : w5.cell? ⟨w3.heap.size, 0, none⟩ = some (.int .u8 (xk.toNat : Int)) := G7.xk.at_ rfl
              have s1 : w5.cell? ⟨w3.heap.size, 1, none⟩ = some (.int .i64 xm) := G7.xk.at_ rfl
              have s2 : w5.cell? ⟨w3.heap.size, 2, none⟩ = some (.int .u64 (xl : Int)) := G7.xk.at_ rfl
              have s3 : w5.cell? ⟨w3.heap.size, 3, none⟩ = some (.bool false) := G7.xk.at_ rfl
              have u4c : w5.cell? ⟨w3.heap.size, 4, none⟩ = some (.slice (some ⟨g, 14, none⟩) xb.length c) := G7.xk.at_ rfl
              have p0 : w5.cell? ⟨w.heap.size, 0, none⟩ = some (.int .u8 (xk.toNat : Int)) := G7.zk.at_ rfl
              have p1 : w5.cell? ⟨w.heap.size, 1, none⟩ = some (.int .i64 xm) := G7.zk.at_ rfl
              have p2 : w5.cell? ⟨w.heap.size, 2, none⟩ = some (.int .u64 (hlf : Int)) := G7.zk.at_ rfl
              have own7 : w5.ownsRow (w.heap.size + 1) 5 1 (.slice AV out.length cV) out.length (cB out) := G7.own
              have lt5 : w.heap.size + 1 ≤ w5.heap.size := G7.zk.lt
              clear G4 own blk
              go_wp2_with ((with_reducible show wpList _ _ _ (⟨some 112, _, _, _, _, _⟩ :: _) _ _); refine wpList_append_rv el_u8 rfl (.tmp 109) (.tmp 111) rfl (w.heap.size + 1) (.slice AV out.length cV) out.length (cB out) rfl own7 (some ⟨g, 14, none⟩) xb.length c (cB xb) rfl ?f1 G7.rb (cB_one xb) ?f2 ?f3 ?f4 ?_)
              case f1 => rw [cB_len]; omega
              case f2 => unfold maxLen; omega
              case f3 => omega
              case f4 => exact lt5
              intro v6 w6 own6 gr6 _
              obtain ⟨z6, b6, own6'⟩ := G7.more (b := xb) (n := out.length) (m := xb.length) own6 rfl rfl gr6
              obtain ⟨A6, c6, hv6, _, _⟩ := own_form own6
              subst hv6
              have q0 : w6.cell? ⟨w.heap.size, 0, none⟩ = some (.int .u8 (xk.toNat : Int)) := z6.at_ rfl
              have q1 : w6.cell? ⟨w.heap.size, 1, none⟩ = some (.int .i64 xm) := z6.at_ rfl
              have q2 : w6.cell? ⟨w.heap.size, 2, none⟩ = some (.int .u64 (hlf : Int)) := z6.at_ rfl
              clear own6 gr6 u4c own7 G7 s0 s1 s2 s3 p0 p1 p2 tk tm tl ws
              have wz : IntKind.u64.wrap ((out.length : Int) + (xb.length : Int)) = (out.length : Int) + (xb.length : Int) := by rw [u64_wrap]; omega
              have hoL : (out ++ xb).length = out.length + xb.length := List.length_append
              by_cases hdone : out.length + xb.length = hlf
              · have te : ((out.length : Int) + (xb.length : Int) == (hlf : Int)) = true := by simp; omega
                have HY := Lib.hid (fun (w' : World) (own : w'.ownsRow (w.heap.size + 1) 5 1 (.slice A6 (out.length + xb.length) c6) (out ++ xb).length (cB (out ++ xb))) (hb : Below w.heap.size w w') => RetGet.yes (R := RR) (by rw [HQ.out, if_pos (by rw [hoL]; exact hdone)]) own hb)
                have HO := Lib.hid own6'
                clear hdone own6' z6 HQ hoL h4
                go_wp2
                go_quiet (fail)
                go_wp2
                refine bodyPost_ret (v := .tuple #[.int .u8 (xk.toNat : Int), .int .i64 xm, .slice A6 (out.length + xb.length) c6, .int .i64 ((k : Int) + 1), .int .i64 0]) (by simp [results, Tryz.results82, go_sem]) rfl (HY.out _ HO.out ⟨b6.os, b6.tape, b6.output, b6.size, b6.block⟩)
              · have te : ((out.length : Int) + (xb.length : Int) == (hlf : Int)) = false := by simp; omega
                have HN := Lib.hid (show getP y.abs (a : Int) f (k + 1) ⟨xk, xm, hlf, hff, hbs⟩ (out ++ xb) = RR by rw [HQ.out, if_neg (by rw [hoL]; exact hdone)])
                clear hdone HQ q0 q1
                have HO := Lib.hid own6'
                have HZ := Lib.hid z6
                have hle : out.length + xb.length ≤ hlf := by omega
                have HLO := Lib.hid hoL
                clear own6' z6 hoL h4
                go_wp2
                go_roundw
                case rel =>
                  have hfu := HFU.out
                  exact ⟨k + 1, ⟨xk, xm, hlf, hff, hbs⟩, _, out ++ xb, by omega, by go_num, HO.out, HZ.out, b6, by rw [hRR, show y.lp.length - a - (k + 1) = f by omega]; exact HN.out, by rw [HLO.out]; exact hle, big, fun h => by omega⟩
                case measure => simp [intOf]; omega
      · obtain ⟨E, hEE⟩ : ∃ E, y.abs.readE ((a : Int) + (k : Int)) = E := ⟨_, rfl⟩
        have e2 : (E != 0) = true := by rw [hEE] at hE; simpa using hE
        have hRRE : RR = (E, 0, 0, [], 0) := by rw [← HRQ.out, getP_err hE, hEE]
        have HE := Lib.hid (fun (w' : World) (hb : Below w.heap.size w w') => RetGet.no hRRE hb)
        have C := pread_no y ((a : Int) + (k : Int)) wr base hr E hEE
        clear hRRE hEE hE fst own blk HRQ
        go_wp2_with fail
        refine C.mono ?_
        rintro e w2 ⟨v2, rfl, b2⟩
        clear C
        go_wp2
        refine bodyPost_ret (v := .tuple #[.int .u8 0, .int .i64 0, .slice none 0 0, .int .i64 0, .int .i64 E]) (by simp [results, Tryz.results82, go_sem]) rfl (HE.out _ (bel.trans (b2.mono bel.size)))
end Go.Proofs.YtendnkklbeiegaaGreatDoor
