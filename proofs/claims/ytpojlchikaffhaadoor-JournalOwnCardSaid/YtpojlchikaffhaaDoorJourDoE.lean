/-
  The statements' do as one call; the walk of small.
-/
import Derived.Test.YtpojlchikaffhaaDoorJourDoD
namespace Go.Proofs.YtpojlchikaffhaaDoor
open Go.RowKit DiskP SumP PageP JourP

theorem do_calls (j : JL) (p : PJ) (x : XL) (dlt : Int) (a : ActR) (w : World) (base : Nat) (X : Nat → Prop) (h : BothJ w base X j x p dlt) (hT : Tab w) (hbase : base ≤ w.heap.size) (hg : 0 < base) (ha : RecOK w (fun k => j.foot k ∨ X k) a.r) (he : p.e < 1000000) (hd1 : -1000000 ≤ dlt) (hd2 : dlt ≤ 1000000) :
    Calls Tryd.prog 19 #[.pointer (some ⟨j.G, 0, none⟩), x.val, .agg a.cells.toArray] w (RetDo w base X j dlt (doP j.y.size p a)) := by
  unfold doP
  by_cases h0 : a.kind.toNat % 3 = 0
  · rw [if_pos h0]
    exact do_add j p x dlt a w base X h hT hbase hg ha h0
  · rw [if_neg h0]
    by_cases h1 : a.kind.toNat % 3 = 1
    · rw [if_pos h1]
      exact do_sync j p x dlt a w base X h hT hbase hg h1
    · rw [if_neg h1]
      exact do_turn j p x dlt a w base X h hT hbase hg (by omega) he hd1 hd2
theorem doP_e (size : Nat) (p : PJ) (a : ActR) : (doP size p a).e ≤ p.e + 1 ∧ (doP size p a).from_ = p.from_ ∧ (doP size p a).half = p.half := by
  unfold doP
  split
  · unfold PJ.addS; split <;> exact ⟨Nat.le_succ _, rfl, rfl⟩
  · split
    · exact ⟨Nat.le_succ _, rfl, rfl⟩
    · unfold PJ.turnS; split
      · exact ⟨Nat.le_refl _, rfl, rfl⟩
      · exact ⟨Nat.le_succ _, rfl, rfl⟩
/-- Acts' cells. -/
def aC (l : List ActR) : List Value := l.flatMap ActR.cells
theorem aC_len (l : List ActR) : (aC l).length = l.length * 4 := by
  induction l with
  | nil => rfl
  | cons a l ih => unfold aC at ih ⊢; rw [List.flatMap_cons, List.length_append, ih, List.length_cons, show a.cells.length = 4 from rfl]; omega
theorem aC_get (l : List ActR) (k i : Nat) (hi : i < 4) : (aC l)[k * 4 + i]? = (l[k]?).bind fun a => a.cells[i]? := by
  induction l generalizing k with
  | nil => simp [aC]
  | cons a l ih =>
    rw [show aC (a :: l) = a.cells ++ aC l by simp [aC]]
    cases k with
    | zero => rw [List.getElem?_append_left (by show 0 * 4 + i < 4; omega)]; simp
    | succ k =>
      rw [List.getElem?_append_right (by show 4 ≤ (k + 1) * 4 + i; omega), show (k + 1) * 4 + i - a.cells.length = k * 4 + i by show (k + 1) * 4 + i - 4 = _; omega, ih k]
      simp
theorem act_at {w : World} {A : Option Addr} {l : List ActR} (h : RV w A (aC l)) {k : Nat} {a : ActR} (hk : l[k]? = some a) : ∃ b off, A = some ⟨b, off, none⟩ ∧ b < w.heap.size ∧ w.cell? ⟨b, off + k * 4, none⟩ = some (.int .u8 (a.kind.toNat : Int)) ∧ w.cell? ⟨b, off + k * 4 + 1, none⟩ = some (.int .u8 (a.r.kind.toNat : Int)) ∧
    w.cell? ⟨b, off + k * 4 + 2, none⟩ = some (.slice a.r.A a.r.body.length a.r.cap) ∧ w.cell? ⟨b, off + k * 4 + 3, none⟩ = some (.int .u8 (a.frm.toNat : Int)) := by
  have e0 := aC_get l k 0 (by omega)
  have e1 := aC_get l k 1 (by omega)
  have e2 := aC_get l k 2 (by omega)
  have e3 := aC_get l k 3 (by omega)
  rw [hk] at e0 e1 e2 e3
  obtain ⟨b, off, e, hb, hc⟩ := h (by intro e; rw [e] at e0; simp [ActR.cells] at e0)
  exact ⟨b, off, e, hb, hc _ _ e0, by rw [Nat.add_assoc]; exact hc _ _ e1, by rw [Nat.add_assoc]; exact hc _ _ e2, by rw [Nat.add_assoc]; exact hc _ _ e3⟩
/-- How much acts are. -/
def sumA (l : List ActR) : Nat := (l.map fun a => a.r.body.length + 1).sum
theorem sumA_snoc (l : List ActR) (a : ActR) : sumA (l ++ [a]) = sumA l + (a.r.body.length + 1) := by simp [sumA]
theorem sumA_take (l : List ActR) (k : Nat) : sumA (l.take k) ≤ sumA l := by
  have h : ∀ a b : List ActR, sumA (a ++ b) = sumA a + sumA b := fun a b => by simp [sumA]
  have := congrArg sumA (List.take_append_drop k l)
  rw [h] at this
  omega
/-- Where a log lies, as the statements' place says it. -/
structure PlaceR where
  all : Int
  size : Int
  from_ : Int
  sectors : Int
def PlaceR.cells (p : PlaceR) : Array Value := #[.int .i64 p.all, .int .i64 p.size, .int .i64 p.from_, .int .i64 p.sectors]
def smallP (P : PlaceR) (l : List ActR) : Prop := sumA l ≤ 6000 ∧ l.length ≤ 40 ∧ P.all ≤ 400 ∧ P.size ≤ 512 ∧ P.sectors ≤ 400
def RetSmall (w : World) (P : PlaceR) (l : List ActR) (e : Ending) (w' : World) : Prop := (e = .returned (.bool true) ∧ smallP P l ∨ e = .returned (.bool false)) ∧ Below w.heap.size w w'
set_option maxHeartbeats 3200000 in
theorem small_calls (P : PlaceR) (l : List ActR) (n : Nat) (hn : l.length = n) (A : Option Addr) (cap : Nat) (w : World) (hR : RV w A (aC l)) (hb : ∀ a ∈ l, a.r.body.length ≤ 140737488351232) (hl : n ≤ 9223372036854775807) :
    Calls Tryd.prog 10 #[.agg P.cells, .slice A n cap] w (RetSmall w P l) := by
  subst hn
  obtain ⟨pa, ps, pf, pn⟩ := P
  have hbk := Blk.new w 23 #[.int .i64 pa, .int .i64 ps, .int .i64 pf, .int .i64 pn]
  have B1 : Below w.heap.size w (w.alloc (.cells #[.int .i64 pa, .int .i64 ps, .int .i64 pf, .int .i64 pn] 23)) := (Below.refl _ _).alloc (Nat.le_refl _) _
  have hR1 := hR.below B1
  have HN : Hid (∀ w', Below w.heap.size w w' → RetSmall w ⟨pa, ps, pf, pn⟩ l (.returned (.bool false)) w') := fun w' b => ⟨.inr rfl, b⟩
  have HY : Hid (smallP ⟨pa, ps, pf, pn⟩ l → ∀ w', Below w.heap.size w w' → RetSmall w ⟨pa, ps, pf, pn⟩ l (.returned (.bool true)) w') := fun h w' b => ⟨.inl ⟨rfl, h⟩, b⟩
  show Calls Tryd.prog 10 #[.agg #[.int .i64 pa, .int .i64 ps, .int .i64 pf, .int .i64 pn], .slice A l.length cap] w _
  go_enter Tryd.func10, Tryd.ntmps10
  go_wp2_with fail
  generalize w.alloc (.cells #[.int .i64 pa, .int .i64 ps, .int .i64 pf, .int .i64 pn] 23) = w1 at *
  go_loopw [5, 10] (fun s i wr => ∃ k sn : Nat, k ≤ l.length ∧ i = .int .i64 (k : Int) ∧ sn = sumA (l.take k) ∧ sn ≤ 6000 ∧ s = .int .i64 (sn : Int) ∧ Below w1.heap.size w1 wr) (fun _ i _ => l.length - (intOf i).toNat)
  case atStart => exact ⟨0, 0, by omega, rfl, rfl, by omega, rfl, Below.refl _ _⟩
  case round =>
    obtain ⟨k, sn, hk, rfl, hsn, hsb, rfl, bel⟩ := hrel
    by_cases hlt : k < l.length
    · have dec : decide ((k : Int) < (l.length : Int)) = true := decide_eq_true (by omega)
      have dec' : decide (k < l.length) = true := decide_eq_true hlt
      obtain ⟨a, hak⟩ : ∃ a, l[k]? = some a := ⟨_, List.getElem?_eq_getElem hlt⟩
      have hba := hb a (List.mem_of_getElem? hak)
      obtain ⟨g, off, rfl, hgl, x0, x1, x2, x3⟩ := act_at (hR1.below bel) hak
      have HS : Hid (sn + (a.r.body.length + 1) = sumA (l.take (k + 1))) := by
        obtain ⟨hltm, hgm⟩ := List.getElem?_eq_some_iff.1 hak
        show _ = _
        rw [List.take_succ_eq_append_getElem hltm, hgm, sumA_snoc, hsn]
      obtain ⟨ak, ⟨rk, rA, rc, rb⟩, af⟩ := a
      simp only at x0 x1 x2 x3 hba HS
      have b8 : Below wr.heap.size wr (wr.alloc (.cells #[.int .u8 (ak.toNat : Int), .int .u8 (rk.toNat : Int), .slice rA rb.length rc, .int .u8 (af.toNat : Int)] 52)) := (Below.refl _ _).alloc (Nat.le_refl _) _
      have HB := Lib.hid (bel.trans (b8.mono bel.size))
      by_cases hbig : 6000 < sn + (rb.length + 1)
      · have d1 : decide (6000 < (sn : Int) + ((rb.length : Int) + 1)) = true := decide_eq_true (by omega)
        have HF := Lib.hid (HN.out _ (B1.trans (HB.out.mono B1.size)))
        clear hak hsn HS HN HY hR hR1 hb hbk hbig
        go_wp2
        go_ret
        exact HF.out
      · have d1 : decide (6000 < (sn : Int) + ((rb.length : Int) + 1)) = false := decide_eq_false (by omega)
        clear hak hsn HN HY hR hR1 hb hbk
        go_wp2
        go_roundw
        case rel => exact ⟨k + 1, sn + (rb.length + 1), by omega, by go_num, HS.out, by omega, by go_num, HB.out⟩
        case measure => simp [intOf]; omega
    · obtain rfl : k = l.length := by omega
      have dec : decide ((l.length : Int) < (l.length : Int)) = false := decide_eq_false (by omega)
      have dec' : decide (l.length < l.length) = false := decide_eq_false (by omega)
      rw [List.take_length] at hsn
      have bb := hbk.below bel hbk.lt
      have c0 : wr.cell? ⟨w.heap.size, 0, none⟩ = some (.int .i64 pa) := bb.at_ rfl
      have c1 : wr.cell? ⟨w.heap.size, 1, none⟩ = some (.int .i64 ps) := bb.at_ rfl
      have c3 : wr.cell? ⟨w.heap.size, 3, none⟩ = some (.int .i64 pn) := bb.at_ rfl
      have BW := B1.trans (bel.mono B1.size)
      have HF := Lib.hid (HN.out _ BW)
      have HSm := Lib.hid hsn
      clear hsn HN hR hR1 hb hbk bb
      by_cases q1 : l.length ≤ 40
      · have d1 : decide ((l.length : Int) ≤ 40) = true := decide_eq_true (by omega)
        by_cases q2 : pa ≤ 400
        · have d2 : decide (pa ≤ 400) = true := decide_eq_true q2
          by_cases q3 : ps ≤ 512
          · have d3 : decide (ps ≤ 512) = true := decide_eq_true q3
            by_cases q4 : pn ≤ 400
            · have d4 : decide (pn ≤ 400) = true := decide_eq_true q4
              have HG := Lib.hid (HY.out ⟨by have := HSm.out; omega, q1, q2, q3, q4⟩ _ BW)
              clear HY q1 q2 q3 q4
              go_wp2
              go_ret
              exact HG.out
            · have d4 : decide (pn ≤ 400) = false := decide_eq_false q4
              clear HY q1 q2 q3 q4
              go_wp2
              go_ret
              exact HF.out
          · have d3 : decide (ps ≤ 512) = false := decide_eq_false q3
            clear HY q1 q2 q3
            go_wp2
            go_ret
            exact HF.out
        · have d2 : decide (pa ≤ 400) = false := decide_eq_false q2
          clear HY q1 q2
          go_wp2
          go_ret
          exact HF.out
      · have d1 : decide ((l.length : Int) ≤ 40) = false := decide_eq_false (by omega)
        clear HY q1
        go_wp2
        go_ret
        exact HF.out
end Go.Proofs.YtpojlchikaffhaaDoor
