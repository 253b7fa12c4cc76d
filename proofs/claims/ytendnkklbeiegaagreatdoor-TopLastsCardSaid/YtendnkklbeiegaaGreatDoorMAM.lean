/-
  A log's Add as one call.
-/
import Derived.Test.YtendnkklbeiegaaGreatDoorSJAddB
import Derived.Test.YtendnkklbeiegaaGreatDoorSJTurnB
import Derived.Test.YtendnkklbeiegaaGreatDoorSJLoadB
namespace Go.Proofs.YtendnkklbeiegaaGreatDoor
open Go.RowKit DiskP SumP PageP JourP

theorem jadd_calls (j : JL) (p : PJ) (x : RecR) (w : World) (base : Nat) (h : JLog w base j p) (hT : Tab w) (hbase : base ≤ w.heap.size) (hg : 2 < base) (hx : RecOK w j.foot x) (hw : j.y.wp.length ≤ 65536) :
    Calls Tryz.prog 103 #[.pointer (some ⟨j.G, 0, none⟩), .agg #[.int .u8 (x.kind.toNat : Int), .slice x.A x.body.length x.cap]] w (RetJ w base j (addE j.y.size p x.abs) (p.addS j.y.size x.abs) (addDS j.y.size p j.y.abs x.abs)) := by
  unfold PJ.addS addDS addE
  have hl : x.abs.body.length = x.body.length := rfl
  rw [hl]
  by_cases h1 : 4000 < x.body.length
  · rw [if_pos h1, if_neg (by decide), if_neg (by decide)]
    exact jadd_long j p x w base h h1
  · rw [if_neg h1]
    by_cases h2 : p.half < 1 + sumNd j.y.size p.rs + x.abs.nd j.y.size
    · rw [if_pos h2, if_neg (by decide), if_neg (by decide)]
      exact jadd_room j p x w base h (by omega) h2
    · rw [if_neg h2, if_pos rfl, if_pos rfl]
      exact jadd_ok j p x w base h hT hbase hg hx (by omega) (by omega) hw
end Go.Proofs.YtendnkklbeiegaaGreatDoor
namespace Go.Proofs.YtendnkklbeiegaaGreatDoor
open Go.RowKit DiskP SumP PageP JourP

theorem nd_le {size len : Nat} (h1 : 19 ≤ size) (h2 : size ≤ 4096) (h3 : len ≤ 1073741824) (h4 : 1 ≤ len) : JourP.nd size len ≤ len := by
  obtain ⟨n1, n2⟩ := nd_eq h1 h2 h3
  obtain ⟨nn, e1, e2, e3, e4⟩ := need_nat size len (by omega)
  have : nn = JourP.nd size len := by omega
  rw [← this]
  rcases Nat.lt_or_ge 1 nn with h | h
  · have h5 := e3 (nn - 1) (by omega) (by omega)
    have h6 : (nn - 1) * 1 ≤ (nn - 1) * (size - 18) := Nat.mul_le_mul_left _ (by omega)
    omega
  · omega
theorem sumNd_le {size : Nat} (h1 : 19 ≤ size) (h2 : size ≤ 4096) : ∀ (rs : List Rec), (∀ r ∈ rs, r.body.length ≤ 4000) → sumNd size rs ≤ rs.length * 4001
  | [], _ => Nat.zero_le _
  | r :: rs, h => by
    have hb := h r (by simp)
    have hl := r.bytes_len
    have h3 : r.nd size ≤ r.bytes.length := nd_le h1 h2 (by omega) (by omega)
    have h4 := sumNd_le h1 h2 rs fun x hx => h x (by simp [hx])
    have e : sumNd size (r :: rs) = r.nd size + sumNd size rs := by simp [sumNd]
    rw [e, List.length_cons, Nat.add_mul, Nat.one_mul]
    omega
theorem longB_no {ks : List Rec} (h : longB ks = false) : ∀ r ∈ ks, r.body.length ≤ 4000 := by
  intro r hr
  unfold longB at h
  rw [List.any_eq_false] at h
  have := h r hr
  simp at this
  omega
theorem longB_yes {ks : List Rec} {k : Nat} {r : Rec} (hk : ks[k]? = some r) (h : 4000 < r.body.length) : longB ks = true := by
  unfold longB
  rw [List.any_eq_true]
  exact ⟨r, List.mem_of_getElem? hk, by simpa using h⟩
/-- While Turn adds up what its records need. -/
def SumR (w : World) (ks : List RecR) (size : Nat) (k : Nat) (n : Value) (wr : World) : Prop := Below w.heap.size w wr ∧ n = .int .i64 ((1 + sumNd size ((ks.map RecR.abs).take k) : Nat) : Int) ∧ ∀ r ∈ (ks.map RecR.abs).take k, r.body.length ≤ 4000
theorem turnD_size (d : Dsk) (b half e : Nat) (rs : List Rec) : (turnD d b half e rs).size = d.size := (fill_same d b half e rs).2.1
theorem turnD_last (d : Dsk) (b half e : Nat) (rs : List Rec) : (turnD d b half e rs).last.length = d.last.length := (applyW_length _ _).trans ((applyW_length _ _).trans (congrArg List.length (fill_same d b half e rs).1))
/-- What Turn's end makes. -/
theorem JLog.turned {w w2 w3 : World} {base : Nat} {j : JL} {p : PJ} {ks rs : List RecR} {v : Value} (h : JLog w base j p) (he : p.e < 1000000) (h1 : ks.length ≤ 1000000) (h2 : longB (ks.map RecR.abs) = false) (h3 : 1 + sumNd j.y.size (ks.map RecR.abs) ≤ p.half) (b2 : Below w.heap.size w w2) (hr : rs.map RecR.abs = ks.map RecR.abs)
    {e : Ending} (R : RetTurn w2 base j (1 - p.use) (p.e + 1) (p.from_ + (1 - p.use) * p.half + pos j.y.size (rs.map RecR.abs) rs.length) v rs (turnD j.y.abs (p.from_ + (1 - p.use) * p.half) p.half (p.e + 1) (rs.map RecR.abs)) e w3) (hv : ∀ k, v.ownBlock = some k → w.heap.size ≤ k) (hrow : ∀ z ∈ rs, RecOK w2 (fun k => k < w.heap.size) z) :
    RetJ w base j 0 (p.turned (ks.map RecR.abs)) (turnD j.y.abs p.o p.half (p.e + 1) (ks.map RecR.abs)) e w3 := by
  obtain ⟨rfl, y', r1, r2, r3, r4, r5⟩ := R
  rw [hr] at r1 r3
  have hl : rs.length = (ks.map RecR.abs).length := by rw [← hr, List.length_map]
  rw [hl] at r3
  obtain ⟨i1, i2, i3⟩ := h.inv.turn (ks := ks.map RecR.abs) he (by rw [List.length_map]; exact h1) (longB_no h2) h3
  have hz : y'.size = j.y.size := by
    have e : y'.abs.size = y'.size := rfl
    rw [← e, r1]
    exact turnD_size _ _ _ _ _
  have hs := b2.size
  refine ⟨rfl, _, ⟨r3, ?_, by show 1 - p.use ≤ 1; omega, h.ffrom, h.fhalf, by rw [h.fsize]; exact congrArg (fun n : Nat => (n : Int)) hz.symm, rfl, rfl, ?_, hr⟩, rfl, r2, ⟨hz, Lay.last_len r1 (turnD_last _ _ _ _ _)⟩, ?_, fun k hk => ?_, fun X hX1 hX z hzz => ?_, r1⟩
  · show Inv y'.abs (p.turned (ks.map RecR.abs)).b (p.turned (ks.map RecR.abs)).o p.half (p.e + 1) (ks.map RecR.abs) (ks.map RecR.abs).length
    rw [r1, (PJ.swap h.u _).1, (PJ.swap h.u _).2]
    exact i2
  · show ((p.from_ + (1 - p.use) * p.half + pos j.y.size (ks.map RecR.abs) (ks.map RecR.abs).length : Nat) : Int) = (((p.turned (ks.map RecR.abs)).b + pos y'.size (ks.map RecR.abs) (ks.map RecR.abs).length : Nat) : Int)
    rw [hz]
    rfl
  · refine ⟨r4.os.trans b2.os, r4.tape.trans b2.tape, r4.output.trans b2.output, Nat.le_trans hs r4.size, fun k hk hf => (r4.block k (by omega) fun hd => ?_).trans (b2.block k hk)⟩
    rcases hd with hd | hd
    · exact hf (.inl hd)
    · exact hf (.inr (.inr hd))
  · rcases hk with hk | hk | hk
    · exact .inl (.inl hk)
    · exact .inr (hv k hk)
    · rcases r5 k hk with hk | hk
      · exact .inl (.inr (.inr hk))
      · exact .inr (by omega)
  · exact ((hrow z hzz).cross (r3.body z hzz)).mono fun k _ hk => .inl (hX1 k hk)
set_option maxHeartbeats 3200000 in
theorem jTurn_calls (j : JL) (p : PJ) (ks : List RecR) (A : Option Addr) (cap : Nat) (w : World) (base : Nat) (h : JLog w base j p) (he : p.e < 1000000) (hR : RV w A (rC ks)) (hx : ∀ x ∈ ks, RecOK w (fun _ => False) x) (hl : ks.length ≤ 1000000) (hT : Tab w) (hbase : base ≤ w.heap.size) (hg : 2 < base) (hw : j.y.wp.length ≤ 65536) :
    Calls Tryz.prog 35 #[.pointer (some ⟨j.G, 0, none⟩), .slice A ks.length cap] w (RetJ w base j (turnE j.y.size p (ks.map RecR.abs)) (p.turnS j.y.size (ks.map RecR.abs)) (turnDS j.y.size p j.y.abs (ks.map RecR.abs))) := by
  obtain ⟨z1, z2, z3, z4, z5, z6, z7, z8⟩ := h.sizes
  have c3 := h.ok.c3
  rw [h.fsize] at c3
  have NC0 := fun w => pneed_calls (j.y.size : Int) 0 w
  rw [need_zero z1 z2] at NC0
  have HE1 : Hid (longB (ks.map RecR.abs) = true → ∀ w', Below w.heap.size w w' → RetJ w base j (turnE j.y.size p (ks.map RecR.abs)) (p.turnS j.y.size (ks.map RecR.abs)) (turnDS j.y.size p j.y.abs (ks.map RecR.abs)) (.returned (.int .i64 1)) w') := by
    intro hb w' b
    unfold PJ.turnS turnDS turnE
    rw [if_pos hb, if_neg (by decide), if_neg (by decide)]
    exact RetJ.same h 1 w' b
  have HE5 : Hid (longB (ks.map RecR.abs) = false → p.half < 1 + sumNd j.y.size (ks.map RecR.abs) → ∀ w', Below w.heap.size w w' → RetJ w base j (turnE j.y.size p (ks.map RecR.abs)) (p.turnS j.y.size (ks.map RecR.abs)) (turnDS j.y.size p j.y.abs (ks.map RecR.abs)) (.returned (.int .i64 5)) w') := by
    intro hb h5 w' b
    unfold PJ.turnS turnDS turnE
    rw [hb, if_neg (by decide), if_pos h5, if_neg (by decide), if_neg (by decide)]
    exact RetJ.same h 5 w' b
  have HE0 : Hid (longB (ks.map RecR.abs) = false → ¬ p.half < 1 + sumNd j.y.size (ks.map RecR.abs) → ∀ e w', RetJ w base j 0 (p.turned (ks.map RecR.abs)) (turnD j.y.abs p.o p.half (p.e + 1) (ks.map RecR.abs)) e w' → RetJ w base j (turnE j.y.size p (ks.map RecR.abs)) (p.turnS j.y.size (ks.map RecR.abs)) (turnDS j.y.size p j.y.abs (ks.map RecR.abs)) e w') := by
    intro hb h5 e w' R
    unfold PJ.turnS turnDS turnE
    rw [hb, if_neg (by decide), if_neg h5, if_pos rfl, if_pos rfl]
    exact R
  have hml : (ks.map RecR.abs).length = ks.length := List.length_map _
  go_enter Tryz.func35, Tryz.ntmps35
  go_wp2_with fail
  refine (NC0 _).mono ?_
  clear NC0
  rintro _ w1 ⟨rfl, rfl⟩
  go_wp2_with fail
  go_loopw [5, 17] (fun n i wr => ∃ k : Nat, k ≤ ks.length ∧ i = .int .i64 (k : Int) ∧ SumR w ks j.y.size k n wr) (fun _ i _ => ks.length - (intOf i).toNat)
  case atStart => exact ⟨0, by omega, rfl, Below.refl _ _, rfl, fun r hr => by simp at hr⟩
  case round =>
    obtain ⟨k, hk, rfl, bel, rfl, hsm⟩ := hrel
    have hsb := sumNd_le z1 z2 _ hsm
    have hsl : ((ks.map RecR.abs).take k).length = k := by rw [List.length_take, hml]; omega
    rw [hsl] at hsb
    by_cases hlt : k < ks.length
    · have dec : decide ((k : Int) < (ks.length : Int)) = true := decide_eq_true (by omega)
      have dec' : decide (k < ks.length) = true := decide_eq_true hlt
      obtain ⟨x, hxk⟩ : ∃ x, ks[k]? = some x := ⟨_, List.getElem?_eq_getElem hlt⟩
      have hxm : x ∈ ks := List.mem_of_getElem? hxk
      have hrk : (ks.map RecR.abs)[k]? = some x.abs := by rw [List.getElem?_map, hxk]; rfl
      obtain ⟨g, off, rfl, hgl, x0, x1⟩ := rec_elem (hR.below bel) hxk
      have hJr := h.ok.below bel
      have BB := Blk.new wr 107 #[.int .u8 (x.kind.toNat : Int), .slice x.A x.body.length x.cap]
      have b8 : Below wr.heap.size wr (wr.alloc (.cells #[.int .u8 (x.kind.toNat : Int), .slice x.A x.body.length x.cap] 107)) := (Below.refl _ _).alloc (Nat.le_refl _) _
      have bel8 := bel.trans (b8.mono bel.size)
      by_cases hxl : 4000 < x.body.length
      · have d1 : decide (4000 < (x.body.length : Int)) = true := decide_eq_true (by omega)
        have HF := Lib.hid (HE1.out (longB_yes hrk hxl) _ bel8)
        clear HE1 HE5 HE0 hxk hrk hxm hsb hsl hml hsm
        go_wp2
        go_ret
        exact HF.out
      · have d1 : decide (4000 < (x.body.length : Int)) = false := decide_eq_false (by omega)
        have HNN := h.nd x (by omega)
        have NC := jneed_calls j x.kind x.A x.body.length x.cap _ base (h.ok.below bel8) (by omega)
        rw [HNN.1] at NC
        have hnx : x.abs.nd j.y.size ≤ 4001 := by
          have h1 : x.abs.bytes.length = 1 + x.body.length := x.abs.bytes_len
          have h2 : x.abs.nd j.y.size ≤ x.abs.bytes.length := nd_le z1 z2 (by omega) (by omega)
          omega
        obtain ⟨hltm, hgm⟩ := List.getElem?_eq_some_iff.1 hrk
        have hts : (ks.map RecR.abs).take (k + 1) = (ks.map RecR.abs).take k ++ [x.abs] := by rw [List.take_succ_eq_append_getElem hltm, hgm]
        have HSN : Hid (sumNd j.y.size ((ks.map RecR.abs).take (k + 1)) = sumNd j.y.size ((ks.map RecR.abs).take k) + x.abs.nd j.y.size) := by
          show _ = _
          rw [hts, sumNd_append, sumNd_one]
        have HSM : Hid (∀ r ∈ (ks.map RecR.abs).take (k + 1), r.body.length ≤ 4000) := by
          intro r hr
          rw [hts] at hr
          rcases List.mem_append.1 hr with hr | hr
          · exact hsm r hr
          · simp at hr; subst hr; show x.body.length ≤ 4000; omega
        have x8 := BB.at_ (i := 1) rfl
        obtain ⟨sn, hsn⟩ : ∃ sn, sn = sumNd j.y.size ((ks.map RecR.abs).take k) := ⟨_, rfl⟩
        rw [← hsn] at hsb
        have hsnb : sn ≤ 4002000000 := by omega
        simp only [← hsn]
        have HSS := Lib.hid hsn
        clear HE1 HE5 HE0 hxk hrk hxm hsl hml hsm HNN hltm hgm hts hsb hsn hx
        go_wp2_with fail
        clear x0 x1
        generalize wr.alloc (.cells #[.int .u8 (x.kind.toNat : Int), .slice x.A x.body.length x.cap] 107) = w8 at *
        refine NC.mono ?_
        clear NC
        rintro _ w9 ⟨rfl, b9⟩
        have HB := Lib.hid (bel8.trans (b9.mono bel8.size))
        clear x8 BB b8 bel8 b9
        go_wp2
        go_roundw
        case rel => exact ⟨k + 1, by omega, by go_num, HB.out, by rw [HSN.out, ← HSS.out]; go_num, HSM.out⟩
        case measure => simp [intOf]; omega
    · obtain rfl : k = ks.length := by omega
      have dec : decide ((ks.length : Int) < (ks.length : Int)) = false := decide_eq_false (by omega)
      have dec' : decide (ks.length < ks.length) = false := decide_eq_false (by omega)
      have htk : (ks.map RecR.abs).take ks.length = ks.map RecR.abs := by rw [← hml, List.take_length]
      rw [htk] at hsb hsm
      simp only [htk]
      have hlo : longB (ks.map RecR.abs) = false := by
        unfold longB
        rw [List.any_eq_false]
        intro r hr
        have := hsm r hr
        simpa using this
      have hJr := h.ok.below bel
      have c2 := hJr.c2
      have c3 := hJr.c3
      rw [h.fhalf] at c2
      have d1 : decide (1000000 < (ks.length : Int)) = false := decide_eq_false (by omega)
      by_cases h5 : p.half < 1 + sumNd j.y.size (ks.map RecR.abs)
      · have d2 : decide ((p.half : Int) < ((1 + sumNd j.y.size (ks.map RecR.abs) : Nat) : Int)) = true := decide_eq_true (by omega)
        obtain ⟨sn, hsn⟩ : ∃ sn : Nat, sn = 1 + sumNd j.y.size (ks.map RecR.abs) := ⟨_, rfl⟩
        rw [← hsn] at d2
        simp only [← hsn]
        have d3 : decide (p.half < sn) = true := decide_eq_true (by omega)
        have HF := Lib.hid (HE5.out hlo h5 _ bel)
        clear HE1 HE5 HE0 hlo hsm hsb htk hml hsn hsl h5
        go_wp2
        go_ret
        exact HF.out
      · have d2 : decide ((p.half : Int) < ((1 + sumNd j.y.size (ks.map RecR.abs) : Nat) : Int)) = false := decide_eq_false (by omega)
        obtain ⟨sn, hsn⟩ : ∃ sn : Nat, sn = 1 + sumNd j.y.size (ks.map RecR.abs) := ⟨_, rfl⟩
        rw [← hsn] at d2
        simp only [← hsn]
        have d3 : decide (p.half < sn) = false := decide_eq_false (by omega)
        have HEE := Lib.hid (HE0.out hlo h5)
        have CC := jcopied_calls ks A cap wr (hR.below bel) (fun x hxm => (hx x hxm).below bel) (fun x hxm => by have := hsm x.abs (List.mem_map_of_mem hxm); have e : x.abs.body.length = x.body.length := rfl; omega) hl
        have HT := Lib.hid (fun w2 w3 rs v e b2 hr R hv hrow => h.turned (w2 := w2) (w3 := w3) (rs := rs) (v := v) (e := e) he hl hlo (by omega) b2 hr R hv hrow)
        have HI := Lib.hid (h.inv.turn (ks := ks.map RecR.abs) he (by rw [hml]; exact hl) (longB_no hlo) (by show 1 + sumNd j.y.size (ks.map RecR.abs) ≤ p.half; omega)).1
        clear HE1 HE5 HE0 hlo hsm hsb htk hml hsn hsl h5
        go_wp2_with fail
        refine CC.mono ?_
        clear CC
        rintro _ w2 ⟨v, rs, rfl, hrl, hra, row, b2⟩
        have bel2 := bel.trans (b2.mono bel.size)
        have hsr := bel.size
        have hJ2 := h.ok.below bel2
        have hK : KeepR w2 base j.G j.y v rs := ⟨row.lower (by omega) (fun k _ hk => by
          rcases hk with rfl | hk
          · exact hJr.gk.lt
          · exact (hJr.dk.foot_lt hk).2), fun e => by have := (row.own.lt _ e).1; have := hJr.gk.lt; omega, fun k hk hf => by have := (row.own.lt _ hk).1; have := (hJr.dk.foot_lt hf).2; omega⟩
        have hP : TurnP j p.from_ p.half p.use p.e rs := ⟨h.ffrom, h.fhalf, h.fsize, h.fuse, h.fe, h.u, by rw [hra]; exact HI.out, by omega⟩
        have TC := jturn_calls j p.from_ p.half p.use p.e v rs w2 base hJ2 hK hP (hT.below bel2) (by have := bel2.size; omega) hg
        have HF := Lib.hid (fun w3 e R => HT.out w2 w3 rs v e bel2 hra R (fun k hk => by have := (row.own.lt _ hk).1; omega) (fun z hz => (row.ks z hz).mono fun k _ hk => .inr (by omega)))
        clear HT HI hra hrl row b2 hJ2 hK hP c2 c3
        go_wp2_with fail
        refine TC.mono ?_
        clear TC
        intro e w3 R
        have HG := Lib.hid (HEE.out e w3 (HF.out w3 e R))
        obtain ⟨rfl, _⟩ := R
        clear HF
        go_wp2
        go_ret
        exact HG.out
end Go.Proofs.YtendnkklbeiegaaGreatDoor
namespace Go.Proofs.YtendnkklbeiegaaGreatDoor
open Go.RowKit DiskP SumP PageP JourP

/-- Which half is in use, its epoch, and whether there is one, when the first k halves were looked at; g tells the epoch of a half that has a head. -/
def findSt (g : Nat → Option Nat) : Nat → Nat × Nat × Bool
  | 0 => (1, 0, false)
  | k + 1 => match g k with
    | none => findSt g k
    | some m => if (findSt g k).2.2 = false ∨ (findSt g k).2.1 < m then (k, m, true) else findSt g k
def JL.ue (j : JL) (u e : Nat) : JL := { j with use := (u : Int), epoch := (e : Int) }
/-- What the halves' heads tell. -/
def headR : Option Nat → Int × UInt8 × Int × List UInt8 × Int
  | some m => (0, 72, (m : Int), [], 1)
  | none => (2, 0, 0, [], 0)
structure FindP (j : JL) (f h : Nat) (g : Nat → Option Nat) : Prop where
  ffrom : j.from_ = (f : Int)
  fhalf : j.half = (h : Int)
  hf : f ≤ 65536
  hh : h ≤ 65536
  get : ∀ i, i < 2 → getR j.y.abs ((f + i * h : Nat) : Int) = headR (g i)
  small : ∀ i m, g i = some m → m ≤ 1000000
theorem findSt_le (g : Nat → Option Nat) (k : Nat) (hk : k ≤ 2) : (findSt g k).1 ≤ 1 := by
  induction k with
  | zero => exact Nat.le_refl _
  | succ k ih =>
    unfold findSt
    split
    · exact ih (by omega)
    · split
      · show k ≤ 1; omega
      · exact ih (by omega)
theorem findSt_small {g : Nat → Option Nat} (h : ∀ i m, g i = some m → m ≤ 1000000) (k : Nat) : (findSt g k).2.1 ≤ 1000000 := by
  induction k with
  | zero => exact Nat.zero_le _
  | succ k ih =>
    unfold findSt
    split
    · exact ih
    · rename_i m hm
      split
      · exact h k m hm
      · exact ih
theorem JOK.setUE {w : World} {base : Nat} {j : JL} (h : JOK w base j) (u e : Nat) : JOK ((w.setCell ⟨j.G, 4, none⟩ (.int .i64 (u : Int))).setCell ⟨j.G, 5, none⟩ (.int .i64 (e : Int))) base (j.ue u e) ∧ FootN w j (j.ue u e) ((w.setCell ⟨j.G, 4, none⟩ (.int .i64 (u : Int))).setCell ⟨j.G, 5, none⟩ (.int .i64 (e : Int))) := by
  have K : Kept (fun k => k = j.G) w ((w.setCell ⟨j.G, 4, none⟩ (.int .i64 (u : Int))).setCell ⟨j.G, 5, none⟩ (.int .i64 (e : Int))) := ((Kept.refl (fun k => k = j.G) w).setCell (p := ⟨j.G, 4, none⟩) (.inl rfl) _).setCell (p := ⟨j.G, 5, none⟩) (.inl rfl) _
  exact ⟨h.struct (j' := j.ue u e) K rfl rfl ((h.gk.set_ 4 _).set_ 5 _) h.kp, K.mono fun k _ hk => .inl hk, fun _ hk => .inl hk⟩
/-- What find gives back. -/
def RetFind (w : World) (base : Nat) (j : JL) (st : Nat × Nat × Bool) (rs : List Rec) (lasts : Nat) (e : Ending) (w' : World) : Prop :=
  e = .returned (.int .i64 0) ∧ ∃ k a v xs, (st.2.2 = true → lasts ≤ k) ∧ k ≤ rs.length ∧ (st.2.2 = false → k = 0) ∧ xs.map RecR.abs = rs.take k ∧ JOK w' base ((j.ue st.1 st.2.1).got a v xs) ∧ FootN w j ((j.ue st.1 st.2.1).got a v xs) w'
theorem JL.ue_ue (j : JL) (a b c d : Nat) : (j.ue a b).ue c d = j.ue c d := rfl
set_option maxHeartbeats 3200000 in
set_option maxRecDepth 100000 in
theorem jfind_calls (j : JL) (f h : Nat) (g : Nat → Option Nat) (rs : List Rec) (lasts : Nat) (w : World) (base : Nat) (hJ : JOK w base j) (hP : FindP j f h g) (hL : (findSt g 2).2.2 = true → LoadP (j.ue (findSt g 2).1 (findSt g 2).2.1) f h (findSt g 2).1 (findSt g 2).2.1 rs lasts) (hrs : j.rs = []) (hT : Tab w) (hbase : base ≤ w.heap.size) (hg : 2 < base) :
    Calls Tryz.prog 75 #[.pointer (some ⟨j.G, 0, none⟩)] w (RetFind w base j (findSt g 2) rs lasts) := by
  have hf := hP.hf
  have hh := hP.hh
  have hvA := hJ.gk
  have c4 : w.cell? ⟨j.G, 4, none⟩ = some (.int .i64 j.use) := hJ.gk.at_ rfl
  have c5 : w.cell? ⟨j.G, 5, none⟩ = some (.int .i64 j.epoch) := hJ.gk.at_ rfl
  have y4 := hJ.gk.frozen 4
  have y5 := hJ.gk.frozen 5
  obtain ⟨X1, X2⟩ := hJ.setUE 1 0
  have HX1 : Hid (JOK ((w.setCell ⟨j.G, 4, none⟩ (.int .i64 1)).setCell ⟨j.G, 5, none⟩ (.int .i64 0)) base (j.ue 1 0)) := X1
  have HX2 : Hid (FootN w j (j.ue 1 0) ((w.setCell ⟨j.G, 4, none⟩ (.int .i64 1)).setCell ⟨j.G, 5, none⟩ (.int .i64 0))) := X2
  clear X1 X2 hvA
  go_enter Tryz.func75, Tryz.ntmps75
  go_wp2_with fail
  generalize (w.setCell ⟨j.G, 4, none⟩ (.int .i64 1)).setCell ⟨j.G, 5, none⟩ (.int .i64 0) = w1 at *
  clear c4 c5 y4 y5
  go_loopw [3, 16] (fun fd i wr => ∃ k : Nat, k ≤ 2 ∧ i = .int .i64 (k : Int) ∧ fd = .bool (findSt g k).2.2 ∧ JOK wr base (j.ue (findSt g k).1 (findSt g k).2.1) ∧ FootN w j (j.ue (findSt g k).1 (findSt g k).2.1) wr) (fun _ i _ => 2 - (intOf i).toNat)
  case atStart => exact ⟨0, by omega, rfl, rfl, HX1.out, HX2.out⟩
  case round =>
    obtain ⟨k, hk, rfl, rfl, J, FN⟩ := hrel
    have hU := findSt_le g k hk
    have hE := findSt_small hP.small k
    have Tr : Tab wr := tab_kept hT hJ hg FN.1 (fun _ h => h)
    by_cases hlt : k < 2
    · have dec : decide ((k : Int) < 2) = true := decide_eq_true (by omega)
      have HST : Hid (∀ g', g k = g' → findSt g (k + 1) = match g' with | none => findSt g k | some m => if (findSt g k).2.2 = false ∨ (findSt g k).2.1 < m then (k, m, true) else findSt g k) := by
        intro g' hg'
        rw [← hg']
        rfl
      have PG := pget_calls j.y ((f + k * h : Nat) : Int)
      rw [hP.get k hlt] at PG
      obtain ⟨st, hst⟩ : ∃ st, findSt g k = st := ⟨_, rfl⟩
      rw [hst] at J FN hU hE HST ⊢
      obtain ⟨U, E, fd⟩ := st
      simp only at J FN hU hE HST ⊢
      have hkk : k * h ≤ 65536 := by rcases (show k = 0 ∨ k = 1 by omega) with rfl | rfl <;> omega
      obtain ⟨b, hb⟩ : ∃ b, f + k * h = b := ⟨_, rfl⟩
      have BC := fun w9 (hJ9 : JOK w9 base (j.ue U E)) => (jbegin_calls (j.ue U E) k f h w9 base hJ9 (by omega) hP.ffrom hP.fhalf hf hh).mono (fun _ _ ⟨a, q, hb⟩ => (⟨a, hb ▸ drewN_below w9 q⟩ : _ ∧ Below w9.heap.size w9 _))
      rw [hb] at PG BC
      have gk : Blk wr j.G 168 #[.pointer (some ⟨j.y.D, 0, none⟩), .int .i64 j.from_, .int .i64 j.half, .int .i64 j.size, .int .i64 (U : Int), .int .i64 (E : Int), .int .i64 j.at_, j.v] := J.gk
      have hgl := gk.lt
      have bd : Below wr.heap.size wr wr.drew := (Below.refl _ _).drew
      have BCd : Calls Tryz.prog 119 #[.pointer (some ⟨j.G, 0, none⟩), .int .i64 (k : Int)] wr.drew (fun e w9 => e = .returned (.int .i64 (b : Int)) ∧ Below wr.heap.size wr w9) := (BC _ (J.below bd)).mono fun _ _ ⟨a, b9⟩ => ⟨a, ⟨b9.os, b9.tape, b9.output, b9.size, b9.block⟩⟩
      have HS : Hid (∀ wq, Below wr.heap.size wr wq → wq.cell? ⟨j.G, 0, none⟩ = some (.pointer (some ⟨j.y.D, 0, none⟩))) := fun wq bq => (gk.below bq hgl).at_ rfl
      have f1 := HS.out _ bd
      have HB := Lib.hid hb
      have Hst := Lib.hid hst
      clear BC hb hkk hst
      cases hgk : g k with
      | none =>
        rw [hgk] at PG
        have PN : ∀ w9, Below wr.heap.size wr w9 → Calls Tryz.prog 82 #[.pointer (some ⟨j.y.D, 0, none⟩), .int .i64 (b : Int)] w9 (fun e w5 => ∃ A c, e = .returned (.tuple #[.int .u8 0, .int .i64 0, .slice A 0 c, .int .i64 0, .int .i64 2]) ∧ Below wr.heap.size wr w5) := fun w9 b9 => (PG w9 base (J.below b9).dk (Tr.below b9)).mono (by
          rintro _ w5 ⟨v5, rfl, o5, b5⟩
          obtain ⟨A, c, hv, _, _⟩ := own_form o5
          rw [hv]
          exact ⟨A, c, rfl, b9.trans (b5.mono b9.size)⟩)
        have hS : findSt g (k + 1) = (U, E, fd) := HST.out none hgk
        have HR : Hid (∀ w5, Below wr.heap.size wr w5 → JOK w5 base (j.ue U E) ∧ FootN w j (j.ue U E) w5) := fun w5 b5 => ⟨J.below b5, FN.trans (FootN.below b5)⟩
        have HSS := Lib.hid hS
        clear hS HST hgk PG J FN Tr gk hL
        go_wp2_with fail
        go_region_held (fun wq => wq.cell? ⟨j.G, 0, none⟩ = some (.pointer (some ⟨j.y.D, 0, none⟩))) (first | exact f1 | exact f9 | exact f5) (first
          | (go_at_call 119; (with_reducible refine BCd.mono ?_); rintro _ w9 ⟨rfl, b9⟩; have f9 := HS.out _ b9)
          | (go_at_call 82; (with_reducible refine (PN w9 b9).mono ?_); rintro _ w5 ⟨A5, c5, rfl, b5⟩; have f5 := HS.out _ b5))
        have HRR := Lib.hid (HR.out w5 b5)
        clear HR PN BCd HS f1 f9 f5 b9 b5
        go_wp2
        go_roundw
        case rel => exact ⟨k + 1, by omega, by go_num, by rw [HSS.out], by rw [HSS.out]; exact HRR.out.1, by rw [HSS.out]; exact HRR.out.2⟩
        case measure => simp [intOf]; omega
      | some m =>
        rw [hgk] at PG
        have PN : ∀ w9, Below wr.heap.size wr w9 → Calls Tryz.prog 82 #[.pointer (some ⟨j.y.D, 0, none⟩), .int .i64 (b : Int)] w9 (fun e w5 => ∃ A c, e = .returned (.tuple #[.int .u8 72, .int .i64 (m : Int), .slice A 0 c, .int .i64 1, .int .i64 0]) ∧ Below wr.heap.size wr w5) := fun w9 b9 => (PG w9 base (J.below b9).dk (Tr.below b9)).mono (by
          rintro _ w5 ⟨v5, rfl, o5, b5⟩
          obtain ⟨A, c, hv, _, _⟩ := own_form o5
          rw [hv]
          exact ⟨A, c, rfl, b9.trans (b5.mono b9.size)⟩)
        have hS : findSt g (k + 1) = if fd = false ∨ E < m then (k, m, true) else (U, E, fd) := HST.out (some m) hgk
        have HR : Hid (∀ w5, Below wr.heap.size wr w5 → JOK w5 base (j.ue U E) ∧ FootN w j (j.ue U E) w5) := fun w5 b5 => ⟨J.below b5, FN.trans (FootN.below b5)⟩
        have HG : Hid (∀ w5, Below wr.heap.size wr w5 → Blk w5 j.G 168 #[.pointer (some ⟨j.y.D, 0, none⟩), .int .i64 j.from_, .int .i64 j.half, .int .i64 j.size, .int .i64 (U : Int), .int .i64 (E : Int), .int .i64 j.at_, j.v]) := fun w5 b5 => gk.below b5 hgl
        have HSS := Lib.hid hS
        clear hS HST hgk PG J FN Tr gk hL
        go_wp2_with fail
        go_region_held (fun wq => wq.cell? ⟨j.G, 0, none⟩ = some (.pointer (some ⟨j.y.D, 0, none⟩))) (first | exact f1 | exact f9 | exact f5) (first
          | (go_at_call 119; (with_reducible refine BCd.mono ?_); rintro _ w9 ⟨rfl, b9⟩; have f9 := HS.out _ b9)
          | (go_at_call 82; (with_reducible refine (PN w9 b9).mono ?_); rintro _ w5 ⟨A5, c5, rfl, b5⟩; have f5 := HS.out _ b5))
        have HRR := Lib.hid (HR.out w5 b5)
        have g5 := HG.out w5 b5
        have e4 : w5.cell? ⟨j.G, 4, none⟩ = some (.int .i64 (U : Int)) := g5.at_ rfl
        have e5 : w5.cell? ⟨j.G, 5, none⟩ = some (.int .i64 (E : Int)) := g5.at_ rfl
        have y4 := g5.frozen 4
        have y5 := g5.frozen 5
        obtain ⟨X1, X2⟩ := HRR.out.1.setUE k m
        rw [JL.ue_ue] at X1 X2
        have HY1 : Hid (JOK ((w5.setCell ⟨j.G, 4, none⟩ (.int .i64 (k : Int))).setCell ⟨j.G, 5, none⟩ (.int .i64 (m : Int))) base (j.ue k m)) := X1
        have HY2 : Hid (FootN w j (j.ue k m) ((w5.setCell ⟨j.G, 4, none⟩ (.int .i64 (k : Int))).setCell ⟨j.G, 5, none⟩ (.int .i64 (m : Int)))) := HRR.out.2.trans X2
        clear X1 X2 HR HG PN BCd HS f1 f9 f5 b9 b5 g5
        by_cases hcase : fd = false ∨ E < m
        · have HS2 : Hid (findSt g (k + 1) = (k, m, true)) := HSS.out.trans (if_pos hcase)
          cases fd with
          | false =>
            clear hcase
            go_wp2
            go_roundw
            case rel => exact ⟨k + 1, by omega, by go_num, by rw [HS2.out], by rw [HS2.out]; exact HY1.out, by rw [HS2.out]; exact HY2.out⟩
            case measure => simp [intOf]; omega
          | true =>
            have hEm : E < m := by simpa using hcase
            have d1 : decide ((E : Int) < (m : Int)) = true := decide_eq_true (by omega)
            have d1' : decide (E < m) = true := decide_eq_true hEm
            clear hcase hEm
            go_wp2
            go_roundw
            case rel => exact ⟨k + 1, by omega, by go_num, by rw [HS2.out], by rw [HS2.out]; exact HY1.out, by rw [HS2.out]; exact HY2.out⟩
            case measure => simp [intOf]; omega
        · have HS2 : Hid (findSt g (k + 1) = (U, E, fd)) := HSS.out.trans (if_neg hcase)
          cases fd with
          | false => exact absurd (.inl rfl) hcase
          | true =>
            have hEm : ¬ E < m := fun h => hcase (.inr h)
            have d1 : decide ((E : Int) < (m : Int)) = false := decide_eq_false (by omega)
            have d1' : decide (E < m) = false := decide_eq_false hEm
            clear hcase hEm
            go_wp2
            go_roundw
            case rel => exact ⟨k + 1, by omega, by go_num, by rw [HS2.out], by rw [HS2.out]; exact HRR.out.1, by rw [HS2.out]; exact HRR.out.2⟩
            case measure => simp [intOf]; omega
    · obtain rfl : k = 2 := by omega
      have dec : decide (((2 : Nat) : Int) < 2) = false := by decide
      obtain ⟨st, hst⟩ : ∃ st, findSt g 2 = st := ⟨_, rfl⟩
      rw [hst] at J FN hU hE hL ⊢
      obtain ⟨U, E, fd⟩ := st
      simp only at J FN hU hE hL ⊢
      have hs1 : w.heap.size ≤ wr.heap.size := FN.1.size
      have gk : Blk wr j.G 168 #[.pointer (some ⟨j.y.D, 0, none⟩), .int .i64 j.from_, .int .i64 j.half, .int .i64 j.size, .int .i64 (U : Int), .int .i64 (E : Int), .int .i64 j.at_, j.v] := J.gk
      have HU := Lib.hid hst
      cases fd with
      | false =>
        have c4 : wr.cell? ⟨j.G, 4, none⟩ = some (.int .i64 (U : Int)) := gk.at_ rfl
        have BC : Calls Tryz.prog 119 #[.pointer (some ⟨j.G, 0, none⟩), .int .i64 (U : Int)] wr (fun e w9 => e = .returned (.int .i64 ((f + U * h : Nat) : Int)) ∧ Below wr.heap.size wr w9) := (jbegin_calls (j.ue U E) U f h wr base J hU hP.ffrom hP.fhalf hf hh).mono (fun _ _ ⟨a, q, hb⟩ => ⟨a, hb ▸ drewN_below wr q⟩)
        obtain ⟨b, hb⟩ : ∃ b, f + U * h = b := ⟨_, rfl⟩
        rw [hb] at BC
        have HR : Hid (∀ w9, Below wr.heap.size wr w9 → RetFind w base j (findSt g 2) rs lasts (.returned (.int .i64 0)) (w9.setCell ⟨j.G, 6, none⟩ (.int .i64 (b : Int)))) := by
          intro w9 b9
          obtain ⟨s1, _⟩ := (J.below b9).setAt (b : Int)
          have s2 := (FN.trans (FootN.below b9)).trans (FootN.setAt (J.below b9) (b : Int))
          rw [hst]
          exact ⟨rfl, 0, (b : Int), j.v, j.rs, fun h => (by simp at h), Nat.zero_le _, fun _ => rfl, by rw [hrs]; rfl, s1, s2⟩
        have KB : Hid (∀ w9, Below wr.heap.size wr w9 → w9.cell? ⟨j.G, 6, none⟩ = some (.int .i64 j.at_) ∧ w9.frozen? ⟨j.G, 6, none⟩ = false) := fun w9 b9 => ⟨(gk.below b9 gk.lt).at_ rfl, (gk.below b9 gk.lt).frozen 6⟩
        clear hb hst J FN gk hL hrs Tr
        go_wp2_with fail
        refine BC.mono ?_
        clear BC
        rintro _ w9 ⟨rfl, b9⟩
        obtain ⟨c6, y6⟩ := KB.out w9 b9
        have HF := Lib.hid (HR.out w9 b9)
        clear KB HR b9
        go_wp2
        go_ret
        exact HF.out
      | true =>
        have LC := jload_calls (j.ue U E) f h U E rs lasts wr base J (hL rfl) hrs Tr (by omega) hg
        have HR : Hid (∀ e w', RetLoad wr base (j.ue U E) rs lasts e w' → RetFind w base j (findSt g 2) rs lasts e w') := by
          rintro e w' ⟨rfl, k, a, v, xs, k1, k2, k3, k4, k5⟩
          rw [hst]
          exact ⟨rfl, k, a, v, xs, fun _ => k1, k2, fun h => (by simp at h), k3, k4, FN.trans k5⟩
        clear hst J FN gk hL hrs Tr
        go_wp2_with fail
        refine LC.mono ?_
        clear LC
        intro e w9 R
        have HF := Lib.hid (HR.out e w9 R)
        obtain ⟨rfl, _⟩ := R
        clear HR
        go_wp2
        go_ret
        exact HF.out
end Go.Proofs.YtendnkklbeiegaaGreatDoor
namespace Go.Proofs.YtendnkklbeiegaaGreatDoor
open Go.RowKit DiskP SumP PageP JourP

def JourP.goodP (all size from_ sectors : Int) : Prop := 19 ≤ size ∧ 0 ≤ from_ ∧ 4 ≤ sectors ∧ sectors ≤ all ∧ from_ ≤ all - sectors
/-- What a disk says of a log that is to be opened on it. -/
structure OpenP (d : Dsk) (f h U E : Nat) (fd : Bool) (rs : List Rec) (lasts : Nat) : Prop where
  dam : fd = true → Dam d (f + U * h) (f + (1 - U) * h) h E rs lasts
  base : ∀ k, Base d (f + (1 - U) * h) (f + U * h) h (E + 1) (rs.take k)
  old : Older d (f + U * h) (E + 1)
  wait : d.wait.length ≤ 200000
def RetOpen (w : World) (base : Nat) (y : Lay) (f h U E : Nat) (fd : Bool) (rs : List Rec) (lasts : Nat) (e : Ending) (w' : World) : Prop :=
  ∃ (j : JL) (k : Nat), e = .returned (.tuple #[.pointer (some ⟨j.G, 0, none⟩), .int .i64 0]) ∧ JLog w' base j ⟨f, h, 1 - U, E + 1, rs.take k, (rs.take k).length⟩ ∧ (fd = true → lasts ≤ k) ∧ k ≤ rs.length ∧ (fd = false → k = 0) ∧ j.y.D = y.D ∧ (j.y.size = y.size ∧ j.y.lp.length = y.lp.length) ∧ j.y.abs.wait = [] ∧ j.y.abs = turnD y.abs (f + (1 - U) * h) h (E + 1) (rs.take k) ∧ Kept y.foot w w' ∧ (∀ i, j.foot i → y.foot i ∨ w.heap.size ≤ i) ∧ ∀ z ∈ j.rs, RecOK w' (fun i => i < w.heap.size) z
/-- The end of Open. -/
theorem open_end {w w1 w2 w3 : World} {base : Nat} {y : Lay} {f h U E : Nat} {fd : Bool} {rs : List Rec} {lasts k : Nat} {j0 j2 : JL} {v : Value} {xs : List RecR} (hO : OpenP y.abs f h U E fd rs lasts) (hU : U ≤ 1) (hk : k ≤ rs.length) (hk1 : fd = true → lasts ≤ k) (hk2 : fd = false → k = 0)
    (b1 : Below w.heap.size w w1) (hy : j0.y = y) (hG : j0.G = w.heap.size) (hv0 : j0.v = .slice none 0 0) (fn : FootN w1 j0 j2 w2) (hj2 : j2.y = y ∧ j2.G = j0.G ∧ j2.from_ = (f : Int) ∧ j2.half = (h : Int) ∧ j2.size = (y.size : Int)) {w2' : World} (b2 : Below w2.heap.size w2 w2') (hxa : xs.map RecR.abs = rs.take k)
    {e : Ending} (R : RetTurn w2' base j2 (1 - U) (E + 1) (f + (1 - U) * h + pos j2.y.size (xs.map RecR.abs) xs.length) v xs (turnD j2.y.abs (f + (1 - U) * h) h (E + 1) (xs.map RecR.abs)) e w3) (hv : ∀ i, v.ownBlock = some i → w2.heap.size ≤ i) (hbz : ∀ x ∈ xs, RecOK w2' (fun i => i ≤ w.heap.size ∨ y.foot i) x) :
    RetOpen w base y f h U E fd rs lasts (.returned (.tuple #[.pointer (some ⟨w.heap.size, 0, none⟩), .int .i64 0])) w3 := by
  obtain ⟨rfl, y', r1, r2, r3, r4, r5⟩ := R
  obtain ⟨hy2, hG2, hf2, hh2, hs2⟩ := hj2
  rw [hxa] at r1 r3
  have hl : xs.length = (rs.take k).length := by rw [← hxa, List.length_map]
  rw [hl] at r3
  rw [hy2] at r1 r2 r3
  obtain ⟨i1, i2⟩ := turn_inv (hO.base k) hO.old
  have hz : y'.size = y.size := by
    have e : y'.abs.size = y'.size := rfl
    rw [← e, r1]
    exact turnD_size _ _ _ _ _
  have hs1 := b1.size
  have hsw := fn.1.size
  have hsb := b2.size
  have hj0f : ∀ i, j0.foot i → y.foot i ∨ w.heap.size ≤ i := fun i hi => by
    rcases hi with hi | hi | hi
    · exact .inr (by omega)
    · rw [hv0] at hi; cases hi
    · rw [hy] at hi; exact .inl hi
  have K3 : Kept y.foot w w3 := by
    refine ⟨(r4.os.trans b2.os).trans (fn.1.os.trans b1.os), (r4.tape.trans b2.tape).trans (fn.1.tape.trans b1.tape), (r4.output.trans b2.output).trans (fn.1.output.trans b1.output), by have := r4.size; omega, fun i hi hf => ?_⟩
    have g1 := b1.block i hi
    have g2 := fn.1.block i (by omega) (fun hj => by
      rcases hj0f i hj with hj | hj
      · exact hf hj
      · omega)
    have g3 := b2.block i (by omega)
    have g4 := r4.block i (by omega) (fun hd => by
      rcases hd with hd | hd
      · omega
      · rw [hy2] at hd; exact hf hd)
    exact ((g4.trans g3).trans g2).trans g1
  refine ⟨_, k, ?_, ⟨r3, ?_, by show 1 - U ≤ 1; omega, hf2, hh2, by rw [hs2]; exact congrArg (fun n : Nat => (n : Int)) hz.symm, rfl, rfl, ?_, hxa⟩, hk1, hk, hk2, r2, ⟨hz, Lay.last_len r1 (turnD_last _ _ _ _ _)⟩, ?_, r1, K3, fun i hi => ?_, fun z hz => ?_⟩
  · show _ = Ending.returned (.tuple #[.pointer (some ⟨j2.G, 0, none⟩), .int .i64 0])
    rw [hG2, hG]
  · show Inv y'.abs (f + (1 - U) * h) (f + (1 - (1 - U)) * h) h (E + 1) (rs.take k) (rs.take k).length
    rw [r1, show 1 - (1 - U) = U by omega]
    exact i1
  · show ((f + (1 - U) * h + pos y.size (rs.take k) (rs.take k).length : Nat) : Int) = ((f + (1 - U) * h + pos y'.size (rs.take k) (rs.take k).length : Nat) : Int)
    rw [hz]
  · show y'.abs.wait = []
    rw [r1]
    exact i2
  · rcases hi with hi | hi | hi
    · right
      have : i = j2.G := hi
      rw [hG2, hG] at this
      omega
    · exact .inr (by have := hv i hi; omega)
    · rcases r5 i hi with hi | hi
      · rw [hy2] at hi; exact .inl hi
      · exact .inr (by omega)
  · refine (hbz z hz).next (r4.mono fun i _ hd => ?_) fun i _ hi => .inl (Nat.le_of_lt hi)
    rcases hd with hd | hd
    · exact .inl (by rw [hd, hG2, hG]; exact Nat.le_refl _)
    · rw [hy2] at hd; exact .inr hd
end Go.Proofs.YtendnkklbeiegaaGreatDoor
namespace Go.Proofs.YtendnkklbeiegaaGreatDoor
open Go.RowKit DiskP SumP PageP JourP

set_option maxHeartbeats 3200000 in
set_option maxRecDepth 100000 in
theorem jopen_good (y : Lay) (f s : Nat) (g : Nat → Option Nat) (rs : List Rec) (lasts : Nat) (w : World) (base : Nat) (hd : DiskOK w base y) (hq : goodP (y.lp.length : Int) (y.size : Int) (f : Int) (s : Int)) (hO : OpenP y.abs f (s / 2) (findSt g 2).1 (findSt g 2).2.1 (findSt g 2).2.2 rs lasts)
    (hget : ∀ i, i < 2 → getR y.abs ((f + i * (s / 2) : Nat) : Int) = headR (g i)) (hsm : ∀ i m, g i = some m → m ≤ 1000000) (hT : Tab w) (hbase : base ≤ w.heap.size) (hg : 2 < base) :
    Calls Tryz.prog 29 #[.pointer (some ⟨y.D, 0, none⟩), .int .i64 (f : Int), .int .i64 (s : Int)] w (RetOpen w base y f (s / 2) (findSt g 2).1 (findSt g 2).2.1 (findSt g 2).2.2 rs lasts) := by
  have hl1 := hd.l1
  have hl2 := hd.l2
  obtain ⟨q1, q2, q3, q4, q5⟩ := hq
  have d1 : decide ((y.size : Int) < 19) = false := decide_eq_false (by omega)
  have d2 : decide ((f : Int) < 0) = false := decide_eq_false (by omega)
  have d3 : decide ((s : Int) < 4) = false := decide_eq_false (by omega)
  have d4 : decide ((y.lp.length : Int) < (s : Int)) = false := decide_eq_false (by omega)
  have d4' : decide (y.lp.length < s) = false := decide_eq_false (by omega)
  have d5 : decide ((y.lp.length : Int) - (s : Int) < (f : Int)) = false := decide_eq_false (by omega)
  obtain ⟨h, hh⟩ : ∃ h, s / 2 = h := ⟨_, rfl⟩
  rw [hh] at hO hget ⊢
  have s1 : (s : Int) / 2 = (h : Int) := by omega
  have hU := findSt_le g 2 (Nat.le_refl _)
  obtain ⟨st, hst⟩ : ∃ st, findSt g 2 = st := ⟨_, rfl⟩
  have SC := size_calls y w base hd
  have HST := Lib.hid hst
  have hFC := fun (j : JL) (w' : World) (hJ : JOK w' base j) (hP : FindP j f h g) (hL : (findSt g 2).2.2 = true → LoadP (j.ue (findSt g 2).1 (findSt g 2).2.1) f h (findSt g 2).1 (findSt g 2).2.1 rs lasts) hrs hT' hb' => jfind_calls j f h g rs lasts w' base hJ hP hL hrs hT' hb' hg
  rw [hst] at hO hU hFC ⊢
  obtain ⟨U, E, fd⟩ := st
  simp only at hO hU hFC ⊢
  clear hst
  have HS1 := Lib.hid s1
  have hf6 : f ≤ 65536 := by omega
  have hh6 : h ≤ 65536 := by omega
  clear hh
  go_enter Tryz.func29, Tryz.ntmps29
  go_wp2_with fail
  refine SC.mono ?_
  clear SC
  rintro _ w0 ⟨rfl, q, rfl⟩
  have b0 := drewN_below w q
  have hd0 := hd.below b0
  have T0 := hT.below b0
  have hz0 : (w.drewN q).heap.size = w.heap.size := rfl
  generalize hw0 : w.drewN q = w0 at *
  clear hw0
  obtain ⟨j0, hj0⟩ : ∃ j0 : JL, j0 = ⟨w.heap.size, y, (f : Int), (h : Int), (y.size : Int), 0, 0, 0, .slice none 0 0, []⟩ := ⟨_, rfl⟩
  have b1 : Below w0.heap.size w0 (w0.alloc (.cells #[.pointer (some ⟨y.D, 0, none⟩), .int .i64 (f : Int), .int .i64 (h : Int), .int .i64 (y.size : Int), .int .i64 0, .int .i64 0, .int .i64 0, .slice none 0 0] 168)) := (Below.refl _ _).alloc (Nat.le_refl _) _
  have gk : Blk (w0.alloc (.cells #[.pointer (some ⟨y.D, 0, none⟩), .int .i64 (f : Int), .int .i64 (h : Int), .int .i64 (y.size : Int), .int .i64 0, .int .i64 0, .int .i64 0, .slice none 0 0] 168)) w.heap.size 168 #[.pointer (some ⟨y.D, 0, none⟩), .int .i64 (f : Int), .int .i64 (h : Int), .int .i64 (y.size : Int), .int .i64 0, .int .i64 0, .int .i64 0, .slice none 0 0] := by
    have := Blk.new w0 168 #[.pointer (some ⟨y.D, 0, none⟩), .int .i64 (f : Int), .int .i64 (h : Int), .int .i64 (y.size : Int), .int .i64 0, .int .i64 0, .int .i64 0, .slice none 0 0]
    rw [hz0] at this
    exact this
  have hgy : ¬ y.foot w.heap.size := fun hk => by have := (hd.foot_lt hk).2; omega
  have J0 : JOK (w0.alloc (.cells #[.pointer (some ⟨y.D, 0, none⟩), .int .i64 (f : Int), .int .i64 (h : Int), .int .i64 (y.size : Int), .int .i64 0, .int .i64 0, .int .i64 0, .slice none 0 0] 168)) base j0 := by
    subst hj0
    exact ⟨gk, hd0.below b1, ⟨RowR.nil _ _ _, fun e => by simp [Value.ownBlock] at e, fun k hk => by simp [Value.ownBlock] at hk⟩, hbase, hgy⟩
  have hP : FindP j0 f h g := by
    subst hj0
    exact ⟨rfl, rfl, hf6, hh6, hget, hsm⟩
  have hL : fd = true → LoadP (j0.ue U E) f h U E rs lasts := fun hfd => by
    subst hj0
    exact ⟨rfl, rfl, rfl, rfl, rfl, hU, hO.dam hfd⟩
  have FC := hFC j0 _ J0 hP hL (by rw [hj0]) (T0.below b1) (by have := b1.size; omega)
  have hG0 : j0.G = w.heap.size := by rw [hj0]
  rw [hG0] at FC
  have B1 := b0.trans (b1.mono b0.size)
  have HJ := Lib.hid hj0
  have HG0 := Lib.hid hG0
  have HZ0 := Lib.hid hz0
  clear hFC hj0 hL hP gk hG0 hget hsm b1 T0 hd0 b0
  go_wp2_with fail
  clear hz0
  generalize w0.alloc (.cells #[.pointer (some ⟨y.D, 0, none⟩), .int .i64 (f : Int), .int .i64 (h : Int), .int .i64 (y.size : Int), .int .i64 0, .int .i64 0, .int .i64 0, .slice none 0 0] 168) = w1 at *
  refine FC.mono ?_
  clear FC
  rintro _ w2 ⟨rfl, k, a, v, xs, k1, k2, k3, xa, J2, fn⟩
  obtain ⟨AV, cV, hv, _, _⟩ : ∃ A c, v = .slice A xs.length c ∧ xs.length ≤ c ∧ c ≤ maxLen := own_form J2.kp.row.own
  subst hv
  obtain ⟨j2, hj2⟩ : ∃ j2, (j0.ue U E).got a (.slice AV xs.length cV) xs = j2 := ⟨_, rfl⟩
  have hj2s : j2.y = y ∧ j2.G = j0.G ∧ j2.from_ = (f : Int) ∧ j2.half = (h : Int) ∧ j2.size = (y.size : Int) ∧ j2.use = (U : Int) ∧ j2.epoch = (E : Int) ∧ j2.v = .slice AV xs.length cV ∧ j2.rs = xs := by
    rw [← hj2, HJ.out]
    exact ⟨rfl, rfl, rfl, rfl, rfl, rfl, rfl, rfl, rfl⟩
  rw [hj2] at J2 fn
  clear hj2
  obtain ⟨e1, e2, e3, e4, e5, e6, e7, e8, e9⟩ := hj2s
  have hs1 := B1.size
  have hs2 := fn.1.size
  have T2 : Tab w2 := (hT.below B1).far fn.1 (fun hk => by have := (J0.foot_lt hk).1; omega)
  have c7 : w2.cell? ⟨w.heap.size, 7, none⟩ = some (.slice AV xs.length cV) := by
    have := J2.c7
    rw [e2, HG0.out, e8] at this
    exact this
  have row := J2.kp.row
  rw [e8, e9] at row
  have hbs : ∀ x ∈ xs, x.body.length ≤ 4000 := fun x hx => (hO.base k).small x.abs (by rw [← xa]; exact List.mem_map_of_mem hx)
  have hB := hO.base k
  have hlb : h ≤ 65536 := hh6
  have hkl : xs.length ≤ h := by
    have h1 := len_le_sum hB.s19 hB.s40 (rs.take k) hB.small
    have h2 := hB.room
    have h3 : xs.length = (rs.take k).length := by rw [← xa, List.length_map]
    omega
  have CC := jcopied_calls xs AV cV w2 (own_rvfN (F := fun _ => False) row.own (fun _ hk => hk.elim)).rv (fun x hx => (row.ks x hx).mono fun _ _ hk => hk.elim) (fun x hx => by have := hbs x hx; omega) (by omega)
  have HT : Hid (∀ (w3 w4 : World) (v3 : Value) (rs3 : List RecR) (e : Ending), Below w2.heap.size w2 w3 → rs3.map RecR.abs = xs.map RecR.abs → RowR w3 w2.heap.size (fun k => k < w2.heap.size) v3 rs3 → RetTurn w3 base j2 (1 - U) (E + 1) (f + (1 - U) * h + pos j2.y.size (rs3.map RecR.abs) rs3.length) v3 rs3 (turnD j2.y.abs (f + (1 - U) * h) h (E + 1) (rs3.map RecR.abs)) e w4 → RetOpen w base y f h U E fd rs lasts (.returned (.tuple #[.pointer (some ⟨w.heap.size, 0, none⟩), .int .i64 0])) w4) := by
    intro w3 w4 v3 rs3 e b3 hra row3 R
    have hjv : j0.v = .slice none 0 0 := by rw [HJ.out]
    have hjy : j0.y = y := by rw [HJ.out]
    exact open_end (y := y) (k := k) hO hU k2 k1 k3 B1 hjy HG0.out hjv fn ⟨e1, e2, e3, e4, e5⟩ b3 (hra.trans xa) R (fun i hi => (row3.own.lt i hi).1) (fun x hx => (row3.ks x hx).mono fun i _ hi => .inr (hi.elim (fun q => by have q2 := J2.gk.lt; rw [e2, HG0.out] at q2; show i < w2.heap.size; omega) fun q => (J2.dk.foot_lt (by rw [e1]; exact q)).2))
  have HTC : Hid (∀ (w3 : World) (v3 : Value) (rs3 : List RecR), Below w2.heap.size w2 w3 → rs3.map RecR.abs = xs.map RecR.abs → RowR w3 w2.heap.size (fun k => k < w2.heap.size) v3 rs3 → Calls Tryz.prog 76 #[.pointer (some ⟨w.heap.size, 0, none⟩), v3] w3 (RetTurn w3 base j2 (1 - U) (E + 1) (f + (1 - U) * h + pos j2.y.size (rs3.map RecR.abs) rs3.length) v3 rs3 (turnD j2.y.abs (f + (1 - U) * h) h (E + 1) (rs3.map RecR.abs)))) := by
    intro w3 v3 rs3 b3 hra row3
    have J3 := J2.below b3
    have hs3 := b3.size
    have hK : KeepR w3 base j2.G j2.y v3 rs3 := ⟨row3.lower (by omega) (fun i _ hk => by
      rcases hk with rfl | hk
      · exact J2.gk.lt
      · exact (J2.dk.foot_lt hk).2), fun e => by have := (row3.own.lt _ e).1; have := J2.gk.lt; omega, fun i hi hf => by have := (row3.own.lt _ hi).1; have := (J2.dk.foot_lt hf).2; omega⟩
    have hTP : TurnP j2 f h U E rs3 := ⟨e3, e4, by rw [e5, e1], e6, e7, hU, by rw [e1, hra, xa]; exact hB, by rw [e1]; have := hO.wait; rw [wlen]; exact this⟩
    have := jturn_calls j2 f h U E v3 rs3 w3 base J3 hK hTP (T2.below b3) (by omega) hg
    rw [e2, HG0.out] at this
    exact this
  clear row J2 J0 fn k1 k2 k3 xa hbs hB hO hU hkl e1 e2 e3 e4 e5 e6 e7 e8 e9 hT T2 B1 hd
  go_wp2_with fail
  refine CC.mono ?_
  clear CC
  rintro _ w3 ⟨v3, rs3, rfl, hrl, hra, row3, b3⟩
  have TC := HTC.out w3 v3 rs3 b3 hra row3
  have HF := Lib.hid (fun w4 e R => HT.out w3 w4 v3 rs3 e b3 hra row3 R)
  clear HTC HT hrl hra row3 b3 c7
  go_wp2_with fail
  refine TC.mono ?_
  clear TC
  intro e w4 R
  have HG := Lib.hid (HF.out w4 e R)
  obtain ⟨rfl, _⟩ := R
  clear HF
  go_wp2
  go_ret2
  exact HG.out
end Go.Proofs.YtendnkklbeiegaaGreatDoor
namespace Go.Proofs.YtendnkklbeiegaaGreatDoor
open Go.RowKit DiskP SumP PageP JourP

theorem JourP.Dam.heads {d : Dsk} {f h u e : Nat} {rs : List Rec} {lasts : Nat} (D : Dam d (f + u * h) (f + (1 - u) * h) h e rs lasts) (hu : u ≤ 1) (he : e < 1000000) :
    ∃ g : Nat → Option Nat, findSt g 2 = (u, e, true) ∧ (∀ i, i < 2 → getR d ((f + i * h : Nat) : Int) = headR (g i)) ∧ ∀ i m, g i = some m → m ≤ 1000000 := by
  have h1 := D.head
  have hb := D.base
  have h2 := D.old.get hb.off hb.s19 hb.s40 (by omega)
  obtain ⟨o, ho, hoe⟩ : ∃ o : Option Nat, getR d ((f + (1 - u) * h : Nat) : Int) = headR o ∧ ∀ m, o = some m → m < e := by
    rcases h2 with h2 | ⟨m, _, h3, h2⟩
    · exact ⟨none, h2, fun m hm => by cases hm⟩
    · exact ⟨some m, h2, fun m' hm => by cases hm; exact h3⟩
  refine ⟨fun i => if i = u then some e else o, ?_, fun i hi => ?_, fun i m hm => ?_⟩
  · rcases (show u = 0 ∨ u = 1 by omega) with rfl | rfl
    · cases o with
      | none => rfl
      | some m =>
        have := hoe m rfl
        show (if true = false ∨ e < m then _ else _) = _
        rw [if_neg (by simp; omega)]
        rfl
    · cases o with
      | none => rfl
      | some m =>
        have := hoe m rfl
        show (if true = false ∨ m < e then _ else _) = _
        rw [if_pos (.inr this)]
  · by_cases hi' : i = u
    · subst hi'; simp only [if_true]; exact h1
    · obtain rfl : i = 1 - u := by omega
      simp only [if_neg hi']; exact ho
  · by_cases hi' : i = u
    · simp only [if_pos hi', Option.some.injEq] at hm; omega
    · simp only [if_neg hi'] at hm; have := hoe m hm; omega
theorem JourP.Dam.openP {d : Dsk} {f h u e : Nat} {rs : List Rec} {lasts : Nat} (D : Dam d (f + u * h) (f + (1 - u) * h) h e rs lasts) (he : e < 1000000) (hw : d.wait.length ≤ 200000) : OpenP d f h u e true rs lasts := by
  have hb := D.base
  refine ⟨fun _ => D, fun k => ?_, D.older, hw⟩
  have ht := hb.take k
  exact ht.over he ht.cnt ht.small ht.room
theorem jopen_dam (y : Lay) (f s u e : Nat) (rs : List Rec) (lasts : Nat) (w : World) (base : Nat) (hd : DiskOK w base y) (hq : goodP (y.lp.length : Int) (y.size : Int) (f : Int) (s : Int)) (D : Dam y.abs (f + u * (s / 2)) (f + (1 - u) * (s / 2)) (s / 2) e rs lasts) (hu : u ≤ 1) (he : e < 1000000) (hw : y.abs.wait.length ≤ 200000) (hT : Tab w) (hbase : base ≤ w.heap.size) (hg : 2 < base) :
    Calls Tryz.prog 29 #[.pointer (some ⟨y.D, 0, none⟩), .int .i64 (f : Int), .int .i64 (s : Int)] w (RetOpen w base y f (s / 2) u e true rs lasts) := by
  obtain ⟨g, g1, g2, g3⟩ := D.heads hu he
  have := jopen_good y f s g rs lasts w base hd hq (by
    rw [g1]
    exact D.openP he hw) g2 g3 hT hbase hg
  rw [g1] at this
  exact this
end Go.Proofs.YtendnkklbeiegaaGreatDoor
namespace Go.Proofs.YtendnkklbeiegaaGreatDoor
open Go.RowKit DiskP SumP PageP JourP

theorem fresh_told {n size a : Nat} (ha : a < n) : (newD n size).told[a]? = some (zeroS size) := by
  show (List.replicate n (zeroS size))[a]? = _
  rw [List.getElem?_replicate, if_pos ha]
theorem fresh_open {n size f s : Nat} (h1 : size ≤ 4096) (hq : goodP (n : Int) (size : Int) (f : Int) (s : Int)) (hn : n ≤ 65536) : OpenP (newD n size) f (s / 2) 1 0 false [] 0 ∧ ∀ i, i < 2 → getR (newD n size) ((f + i * (s / 2) : Nat) : Int) = headR none := by
  obtain ⟨q1, q2, q3, q4, q5⟩ := hq
  obtain ⟨h, hh⟩ : ∃ h, s / 2 = h := ⟨_, rfl⟩
  have hh2 : 2 ≤ h := by omega
  have hfl : f + 2 * h ≤ n := by omega
  rw [hh]
  have hl : (newD n size).last.length = n := by simp [newD]
  refine ⟨⟨fun h => (by cases h), fun k => ⟨rfl, by show 19 ≤ size; omega, h1, hh2, by rw [hl]; omega, by rw [hl]; omega, by omega, by omega, by omega, by simp, fun r hr => by simp at hr, by show 1 + sumNd size _ ≤ h; simp [sumNd]; omega⟩, .inl (fresh_told (by omega)), Nat.zero_le _⟩, fun i hi => ?_⟩
  exact getR_zero (newD n size) (f + i * h) rfl (fresh_told (by rcases (show i = 0 ∨ i = 1 by omega) with rfl | rfl <;> omega))
theorem jopen_fresh (y : Lay) (f s n size : Nat) (w : World) (base : Nat) (hd : DiskOK w base y) (ha : y.abs = newD n size) (hln : y.lp.length = n) (hs : y.size = size) (hq : goodP (n : Int) (size : Int) (f : Int) (s : Int)) (hT : Tab w) (hbase : base ≤ w.heap.size) (hg : 2 < base) :
    Calls Tryz.prog 29 #[.pointer (some ⟨y.D, 0, none⟩), .int .i64 (f : Int), .int .i64 (s : Int)] w (RetOpen w base y f (s / 2) 1 0 false [] 0) := by
  have h2 := hd.s2
  have hl2 := hd.l2
  obtain ⟨o1, o2⟩ := fresh_open (n := n) (size := size) (f := f) (s := s) (by omega) hq (by omega)
  exact jopen_good y f s (fun _ => none) [] 0 w base hd (by rw [hln, hs]; exact hq) (by rw [ha]; exact o1) (by rw [ha]; exact o2) (fun i m h => by cases h) hT hbase hg
end Go.Proofs.YtendnkklbeiegaaGreatDoor
