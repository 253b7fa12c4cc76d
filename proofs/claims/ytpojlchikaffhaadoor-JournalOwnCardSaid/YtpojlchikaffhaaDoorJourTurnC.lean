/-
  The walk of a log's Turn.
-/
import Derived.Test.YtpojlchikaffhaaDoorJourTurnB
import Derived.Test.YtpojlchikaffhaaDoorJourAddC
namespace Go.Proofs.YtpojlchikaffhaaDoor
open Go.RowKit DiskP SumP PageP JourP

theorem nd_le {size len : Nat} (h1 : 19 ≤ size) (h2 : size ≤ 4096) (h3 : len ≤ 1073741824) (h4 : 1 ≤ len) : JourP.nd size len ≤ len := by
  obtain ⟨n1, n2⟩ := nd_eq h1 h2 h3
  obtain ⟨nn, e1, e2, e3, e4⟩ := need_nat size len (by omega)
  have : nn = JourP.nd size len := by omega
  rw [← this]
  rcases Nat.lt_or_ge 1 nn with h | h
  · have h5 := e3 (nn - 1) (by omega) (by omega)
    have h6 : (nn - 1) * 1 ≤ (nn - 1) * (size - 18) := Nat.mul_le_mul_left _ (by omega)
    omega
  · omega
theorem sumNd_le {size : Nat} (h1 : 19 ≤ size) (h2 : size ≤ 4096) : ∀ (rs : List Rec), (∀ r ∈ rs, r.body.length ≤ 4000) → sumNd size rs ≤ rs.length * 4001
  | [], _ => Nat.zero_le _
  | r :: rs, h => by
    have hb := h r (by simp)
    have hl := r.bytes_len
    have h3 : r.nd size ≤ r.bytes.length := nd_le h1 h2 (by omega) (by omega)
    have h4 := sumNd_le h1 h2 rs fun x hx => h x (by simp [hx])
    have e : sumNd size (r :: rs) = r.nd size + sumNd size rs := by simp [sumNd]
    rw [e, List.length_cons, Nat.add_mul, Nat.one_mul]
    omega
theorem longB_no {ks : List Rec} (h : longB ks = false) : ∀ r ∈ ks, r.body.length ≤ 4000 := by
  intro r hr
  unfold longB at h
  rw [List.any_eq_false] at h
  have := h r hr
  simp at this
  omega
theorem longB_yes {ks : List Rec} {k : Nat} {r : Rec} (hk : ks[k]? = some r) (h : 4000 < r.body.length) : longB ks = true := by
  unfold longB
  rw [List.any_eq_true]
  exact ⟨r, List.mem_of_getElem? hk, by simpa using h⟩
/-- While Turn adds up what its records need. -/
def SumR (w : World) (ks : List RecR) (size : Nat) (k : Nat) (n : Value) (wr : World) : Prop := Below w.heap.size w wr ∧ n = .int .i64 ((1 + sumNd size ((ks.map RecR.abs).take k) : Nat) : Int) ∧ ∀ r ∈ (ks.map RecR.abs).take k, r.body.length ≤ 4000
theorem turnD_size (d : Dsk) (b half e : Nat) (rs : List Rec) : (turnD d b half e rs).size = d.size := (fill_same d b half e rs).2.1
theorem turnD_last (d : Dsk) (b half e : Nat) (rs : List Rec) : (turnD d b half e rs).last.length = d.last.length := (applyW_length _ _).trans ((applyW_length _ _).trans (congrArg List.length (fill_same d b half e rs).1))
/-- What Turn's end makes. -/
theorem JLog.turned {w w2 w3 : World} {base : Nat} {j : JL} {p : PJ} {ks rs : List RecR} {v : Value} (h : JLog w base j p) (he : p.e < 1000000) (h1 : ks.length ≤ 1000000) (h2 : longB (ks.map RecR.abs) = false) (h3 : 1 + sumNd j.y.size (ks.map RecR.abs) ≤ p.half) (b2 : Below w.heap.size w w2) (hr : rs.map RecR.abs = ks.map RecR.abs)
    {e : Ending} (R : RetTurn w2 base j (1 - p.use) (p.e + 1) (p.from_ + (1 - p.use) * p.half + pos j.y.size (rs.map RecR.abs) rs.length) v rs (turnD j.y.abs (p.from_ + (1 - p.use) * p.half) p.half (p.e + 1) (rs.map RecR.abs)) e w3) (hv : ∀ k, v.ownBlock = some k → w.heap.size ≤ k) (hrow : ∀ z ∈ rs, RecOK w2 (fun k => k < w.heap.size) z) :
    RetJ w base j 0 (p.turned (ks.map RecR.abs)) e w3 := by
  obtain ⟨rfl, y', r1, r2, r3, r4, r5⟩ := R
  rw [hr] at r1 r3
  have hl : rs.length = (ks.map RecR.abs).length := by rw [← hr, List.length_map]
  rw [hl] at r3
  obtain ⟨i1, i2, i3⟩ := h.inv.turn (ks := ks.map RecR.abs) he (by rw [List.length_map]; exact h1) (longB_no h2) h3
  have hz : y'.size = j.y.size := by
    have e : y'.abs.size = y'.size := rfl
    rw [← e, r1]
    exact turnD_size _ _ _ _ _
  have hs := b2.size
  refine ⟨rfl, _, ⟨r3, ?_, by show 1 - p.use ≤ 1; omega, h.ffrom, h.fhalf, by rw [h.fsize]; exact congrArg (fun n : Nat => (n : Int)) hz.symm, rfl, rfl, ?_, hr⟩, rfl, r2, ⟨hz, Lay.last_len r1 (turnD_last _ _ _ _ _)⟩, ?_, fun k hk => ?_, fun X hX1 hX z hzz => ?_⟩
  · show Inv y'.abs (p.turned (ks.map RecR.abs)).b (p.turned (ks.map RecR.abs)).o p.half (p.e + 1) (ks.map RecR.abs) (ks.map RecR.abs).length
    rw [r1, (PJ.swap h.u _).1, (PJ.swap h.u _).2]
    exact i2
  · show ((p.from_ + (1 - p.use) * p.half + pos j.y.size (ks.map RecR.abs) (ks.map RecR.abs).length : Nat) : Int) = (((p.turned (ks.map RecR.abs)).b + pos y'.size (ks.map RecR.abs) (ks.map RecR.abs).length : Nat) : Int)
    rw [hz]
    rfl
  · refine ⟨r4.os.trans b2.os, r4.tape.trans b2.tape, r4.output.trans b2.output, Nat.le_trans hs r4.size, fun k hk hf => (r4.block k (by omega) fun hd => ?_).trans (b2.block k hk)⟩
    rcases hd with hd | hd
    · exact hf (.inl hd)
    · exact hf (.inr (.inr hd))
  · rcases hk with hk | hk | hk
    · exact .inl (.inl hk)
    · exact .inr (hv k hk)
    · rcases r5 k hk with hk | hk
      · exact .inl (.inr (.inr hk))
      · exact .inr (by omega)
  · exact ((hrow z hzz).cross (r3.body z hzz)).mono fun k _ hk => .inl (hX1 k hk)
set_option maxHeartbeats 3200000 in
theorem jTurn_calls (j : JL) (p : PJ) (ks : List RecR) (A : Option Addr) (cap : Nat) (w : World) (base : Nat) (h : JLog w base j p) (he : p.e < 1000000) (hR : RV w A (rC ks)) (hx : ∀ x ∈ ks, RecOK w (fun _ => False) x) (hl : ks.length ≤ 1000000) (hT : Tab w) (hbase : base ≤ w.heap.size) (hg : 0 < base) :
    Calls Tryd.prog 29 #[.pointer (some ⟨j.G, 0, none⟩), .slice A ks.length cap] w (RetJ w base j (turnE j.y.size p (ks.map RecR.abs)) (p.turnS j.y.size (ks.map RecR.abs))) := by
  obtain ⟨z1, z2, z3, z4, z5, z6, z7, z8⟩ := h.sizes
  have c3 := h.ok.c3
  rw [h.fsize] at c3
  have NC0 := fun w => pneed_calls (j.y.size : Int) 0 w
  rw [need_zero z1 z2] at NC0
  have HE1 : Hid (longB (ks.map RecR.abs) = true → ∀ w', Below w.heap.size w w' → RetJ w base j (turnE j.y.size p (ks.map RecR.abs)) (p.turnS j.y.size (ks.map RecR.abs)) (.returned (.int .i64 1)) w') := by
    intro hb w' b
    unfold PJ.turnS turnE
    rw [if_pos hb, if_neg (by decide)]
    exact RetJ.same h 1 w' b
  have HE5 : Hid (longB (ks.map RecR.abs) = false → p.half < 1 + sumNd j.y.size (ks.map RecR.abs) → ∀ w', Below w.heap.size w w' → RetJ w base j (turnE j.y.size p (ks.map RecR.abs)) (p.turnS j.y.size (ks.map RecR.abs)) (.returned (.int .i64 5)) w') := by
    intro hb h5 w' b
    unfold PJ.turnS turnE
    rw [hb, if_neg (by decide), if_pos h5, if_neg (by decide)]
    exact RetJ.same h 5 w' b
  have HE0 : Hid (longB (ks.map RecR.abs) = false → ¬ p.half < 1 + sumNd j.y.size (ks.map RecR.abs) → ∀ e w', RetJ w base j 0 (p.turned (ks.map RecR.abs)) e w' → RetJ w base j (turnE j.y.size p (ks.map RecR.abs)) (p.turnS j.y.size (ks.map RecR.abs)) e w') := by
    intro hb h5 e w' R
    unfold PJ.turnS turnE
    rw [hb, if_neg (by decide), if_neg h5, if_pos rfl]
    exact R
  have hml : (ks.map RecR.abs).length = ks.length := List.length_map _
  go_enter Tryd.func29, Tryd.ntmps29
  go_wp2_with fail
  refine (NC0 _).mono ?_
  clear NC0
  rintro _ w1 ⟨rfl, rfl⟩
  go_wp2_with fail
  go_loopw [5, 17] (fun n i wr => ∃ k : Nat, k ≤ ks.length ∧ i = .int .i64 (k : Int) ∧ SumR w ks j.y.size k n wr) (fun _ i _ => ks.length - (intOf i).toNat)
  case atStart => exact ⟨0, by omega, rfl, Below.refl _ _, rfl, fun r hr => by simp at hr⟩
  case round =>
    obtain ⟨k, hk, rfl, bel, rfl, hsm⟩ := hrel
    have hsb := sumNd_le z1 z2 _ hsm
    have hsl : ((ks.map RecR.abs).take k).length = k := by rw [List.length_take, hml]; omega
    rw [hsl] at hsb
    by_cases hlt : k < ks.length
    · have dec : decide ((k : Int) < (ks.length : Int)) = true := decide_eq_true (by omega)
      have dec' : decide (k < ks.length) = true := decide_eq_true hlt
      obtain ⟨x, hxk⟩ : ∃ x, ks[k]? = some x := ⟨_, List.getElem?_eq_getElem hlt⟩
      have hxm : x ∈ ks := List.mem_of_getElem? hxk
      have hrk : (ks.map RecR.abs)[k]? = some x.abs := by rw [List.getElem?_map, hxk]; rfl
      obtain ⟨g, off, rfl, hgl, x0, x1⟩ := rec_elem (hR.below bel) hxk
      have hJr := h.ok.below bel
      have BB := Blk.new wr 40 #[.int .u8 (x.kind.toNat : Int), .slice x.A x.body.length x.cap]
      have b8 : Below wr.heap.size wr (wr.alloc (.cells #[.int .u8 (x.kind.toNat : Int), .slice x.A x.body.length x.cap] 40)) := (Below.refl _ _).alloc (Nat.le_refl _) _
      have bel8 := bel.trans (b8.mono bel.size)
      by_cases hxl : 4000 < x.body.length
      · have d1 : decide (4000 < (x.body.length : Int)) = true := decide_eq_true (by omega)
        have HF := Lib.hid (HE1.out (longB_yes hrk hxl) _ bel8)
        clear HE1 HE5 HE0 hxk hrk hxm hsb hsl hml hsm
        go_wp2
        go_ret
        exact HF.out
      · have d1 : decide (4000 < (x.body.length : Int)) = false := decide_eq_false (by omega)
        have HNN := h.nd x (by omega)
        have NC := jneed_calls j x.kind x.A x.body.length x.cap _ base (h.ok.below bel8) (by omega)
        rw [HNN.1] at NC
        have hnx : x.abs.nd j.y.size ≤ 4001 := by
          have h1 : x.abs.bytes.length = 1 + x.body.length := x.abs.bytes_len
          have h2 : x.abs.nd j.y.size ≤ x.abs.bytes.length := nd_le z1 z2 (by omega) (by omega)
          omega
        obtain ⟨hltm, hgm⟩ := List.getElem?_eq_some_iff.1 hrk
        have hts : (ks.map RecR.abs).take (k + 1) = (ks.map RecR.abs).take k ++ [x.abs] := by rw [List.take_succ_eq_append_getElem hltm, hgm]
        have HSN : Hid (sumNd j.y.size ((ks.map RecR.abs).take (k + 1)) = sumNd j.y.size ((ks.map RecR.abs).take k) + x.abs.nd j.y.size) := by
          show _ = _
          rw [hts, sumNd_append, sumNd_one]
        have HSM : Hid (∀ r ∈ (ks.map RecR.abs).take (k + 1), r.body.length ≤ 4000) := by
          intro r hr
          rw [hts] at hr
          rcases List.mem_append.1 hr with hr | hr
          · exact hsm r hr
          · simp at hr; subst hr; show x.body.length ≤ 4000; omega
        have x8 := BB.at_ (i := 1) rfl
        obtain ⟨sn, hsn⟩ : ∃ sn, sn = sumNd j.y.size ((ks.map RecR.abs).take k) := ⟨_, rfl⟩
        rw [← hsn] at hsb
        have hsnb : sn ≤ 4002000000 := by omega
        simp only [← hsn]
        have HSS := Lib.hid hsn
        clear HE1 HE5 HE0 hxk hrk hxm hsl hml hsm HNN hltm hgm hts hsb hsn hx
        go_wp2_with fail
        clear x0 x1
        generalize wr.alloc (.cells #[.int .u8 (x.kind.toNat : Int), .slice x.A x.body.length x.cap] 40) = w8 at *
        refine NC.mono ?_
        clear NC
        rintro _ w9 ⟨rfl, b9⟩
        have HB := Lib.hid (bel8.trans (b9.mono bel8.size))
        clear x8 BB b8 bel8 b9
        go_wp2
        go_roundw
        case rel => exact ⟨k + 1, by omega, by go_num, HB.out, by rw [HSN.out, ← HSS.out]; go_num, HSM.out⟩
        case measure => simp [intOf]; omega
    · obtain rfl : k = ks.length := by omega
      have dec : decide ((ks.length : Int) < (ks.length : Int)) = false := decide_eq_false (by omega)
      have dec' : decide (ks.length < ks.length) = false := decide_eq_false (by omega)
      have htk : (ks.map RecR.abs).take ks.length = ks.map RecR.abs := by rw [← hml, List.take_length]
      rw [htk] at hsb hsm
      simp only [htk]
      have hlo : longB (ks.map RecR.abs) = false := by
        unfold longB
        rw [List.any_eq_false]
        intro r hr
        have := hsm r hr
        simpa using this
      have hJr := h.ok.below bel
      have c2 := hJr.c2
      have c3 := hJr.c3
      rw [h.fhalf] at c2
      have d1 : decide (1000000 < (ks.length : Int)) = false := decide_eq_false (by omega)
      by_cases h5 : p.half < 1 + sumNd j.y.size (ks.map RecR.abs)
      · have d2 : decide ((p.half : Int) < ((1 + sumNd j.y.size (ks.map RecR.abs) : Nat) : Int)) = true := decide_eq_true (by omega)
        obtain ⟨sn, hsn⟩ : ∃ sn : Nat, sn = 1 + sumNd j.y.size (ks.map RecR.abs) := ⟨_, rfl⟩
        rw [← hsn] at d2
        simp only [← hsn]
        have d3 : decide (p.half < sn) = true := decide_eq_true (by omega)
        have HF := Lib.hid (HE5.out hlo h5 _ bel)
        clear HE1 HE5 HE0 hlo hsm hsb htk hml hsn hsl h5
        go_wp2
        go_ret
        exact HF.out
      · have d2 : decide ((p.half : Int) < ((1 + sumNd j.y.size (ks.map RecR.abs) : Nat) : Int)) = false := decide_eq_false (by omega)
        obtain ⟨sn, hsn⟩ : ∃ sn : Nat, sn = 1 + sumNd j.y.size (ks.map RecR.abs) := ⟨_, rfl⟩
        rw [← hsn] at d2
        simp only [← hsn]
        have d3 : decide (p.half < sn) = false := decide_eq_false (by omega)
        have HEE := Lib.hid (HE0.out hlo h5)
        have CC := jcopied_calls ks A cap wr (hR.below bel) (fun x hxm => (hx x hxm).below bel) (fun x hxm => by have := hsm x.abs (List.mem_map_of_mem hxm); have e : x.abs.body.length = x.body.length := rfl; omega) hl
        have HT := Lib.hid (fun w2 w3 rs v e b2 hr R hv hrow => h.turned (w2 := w2) (w3 := w3) (rs := rs) (v := v) (e := e) he hl hlo (by omega) b2 hr R hv hrow)
        have HI := Lib.hid (h.inv.turn (ks := ks.map RecR.abs) he (by rw [hml]; exact hl) (longB_no hlo) (by show 1 + sumNd j.y.size (ks.map RecR.abs) ≤ p.half; omega)).1
        clear HE1 HE5 HE0 hlo hsm hsb htk hml hsn hsl h5
        go_wp2_with fail
        refine CC.mono ?_
        clear CC
        rintro _ w2 ⟨v, rs, rfl, hrl, hra, row, b2⟩
        have bel2 := bel.trans (b2.mono bel.size)
        have hsr := bel.size
        have hJ2 := h.ok.below bel2
        have hK : KeepR w2 base j.G j.y v rs := ⟨row.lower (by omega) (fun k _ hk => by
          rcases hk with rfl | hk
          · exact hJr.gk.lt
          · exact (hJr.dk.foot_lt hk).2), fun e => by have := (row.own.lt _ e).1; have := hJr.gk.lt; omega, fun k hk hf => by have := (row.own.lt _ hk).1; have := (hJr.dk.foot_lt hf).2; omega⟩
        have hP : TurnP j p.from_ p.half p.use p.e rs := ⟨h.ffrom, h.fhalf, h.fsize, h.fuse, h.fe, h.u, by rw [hra]; exact HI.out, by have := h.waits; omega⟩
        have TC := jturn_calls j p.from_ p.half p.use p.e v rs w2 base hJ2 hK hP (hT.below bel2) (by have := bel2.size; omega) hg
        have HF := Lib.hid (fun w3 e R => HT.out w2 w3 rs v e bel2 hra R (fun k hk => by have := (row.own.lt _ hk).1; omega) (fun z hz => (row.ks z hz).mono fun k _ hk => .inr (by omega)))
        clear HT HI hra hrl row b2 hJ2 hK hP c2 c3
        go_wp2_with fail
        refine TC.mono ?_
        clear TC
        intro e w3 R
        have HG := Lib.hid (HEE.out e w3 (HF.out w3 e R))
        obtain ⟨rfl, _⟩ := R
        clear HF
        go_wp2
        go_ret
        exact HG.out
end Go.Proofs.YtpojlchikaffhaaDoor
