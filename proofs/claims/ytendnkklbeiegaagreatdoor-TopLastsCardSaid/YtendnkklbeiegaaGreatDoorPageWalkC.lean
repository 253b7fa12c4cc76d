/-
  The walks of package page's Fits and Put.
-/
import Derived.Test.YtendnkklbeiegaaGreatDoorMAD
import Derived.Deep.RegionHeld
import Derived.IntWalk
namespace Go.Proofs.YtendnkklbeiegaaGreatDoor
open Go.RowKit DiskP SumP PageP

/-- Does it fit? -/
def fitsB (y : Lay) (at_ : Int) (bytes : Int) : Bool := decide (1 ≤ need y.size bytes) && decide (need y.size bytes ≤ (y.lp.length : Int) - at_)
theorem fits_calls (y : Lay) (at_ bytes : Int) (w : World) (base : Nat) (h : DiskOK w base y) (h0 : 0 ≤ at_) (h1 : at_ < y.lp.length) :
    Calls Tryz.prog 111 #[.pointer (some ⟨y.D, 0, none⟩), .int .i64 at_, .int .i64 bytes] w fun e w' => e = .returned (.bool (fitsB y at_ bytes)) ∧ ∃ q, w' = w.drewN q := by
  have hl2 := h.l2
  have d0 : decide (0 ≤ at_) = true := by simpa using h0
  have d1 : decide (at_ < (y.lp.length : Int)) = true := by simpa using h1
  have NC := fun w => pneed_calls (y.size : Int) bytes w
  by_cases h2 : 1 ≤ need y.size bytes
  · have d2 : decide (1 ≤ need y.size bytes) = true := by simpa using h2
    have HF : Hid (fitsB y at_ bytes = decide (need y.size bytes ≤ (y.lp.length : Int) - at_)) := by show _ = _; unfold fitsB; rw [d2]; rfl
    generalize need y.size bytes = N at *
    go_enter Tryz.func111, Tryz.ntmps111
    go_wp2_with fail
    refine (size_calls y w base h).mono ?_
    rintro e w1 ⟨rfl, q, rfl⟩
    go_wp2_with fail
    refine (NC _).mono ?_
    rintro e w2 ⟨rfl, rfl⟩
    go_wp2
    go_ret
    exact ⟨by rw [HF.out]; rfl, _, rfl⟩
  · have d2 : decide (1 ≤ need y.size bytes) = false := by simpa using h2
    have HF : Hid (fitsB y at_ bytes = false) := by show _ = _; unfold fitsB; rw [d2]; rfl
    generalize need y.size bytes = N at *
    go_enter Tryz.func111, Tryz.ntmps111
    go_wp2_with fail
    refine (size_calls y w base h).mono ?_
    rintro e w1 ⟨rfl, q, rfl⟩
    go_wp2_with fail
    refine (NC _).mono ?_
    rintro e w2 ⟨rfl, rfl⟩
    go_wp2
    go_ret
    exact ⟨by rw [HF.out]; rfl, _, rfl⟩
/-- It tells how many sectors, and an error; the disk goes on. -/
def RetPut (w : World) (base : Nat) (y : Lay) (n k : Int) (S : Dsk) (e : Ending) (w' : World) : Prop := e = .returned (.tuple #[.int .i64 n, .int .i64 k]) ∧ Next w base y S w'
theorem DiskOK.drewN {w : World} {base : Nat} {y : Lay} (h : DiskOK w base y) (q : Nat) : DiskOK (w.drewN q) base y := h.frame fun _ _ => rfl
theorem Next.drewN {w w' : World} {base : Nat} {y : Lay} {S : Dsk} (q : Nat) (h : Next (w.drewN q) base y S w') : Next w base y S w' := by
  obtain ⟨y', h', a, d, k, f⟩ := h
  exact ⟨y', h', a, d, ⟨k.os, k.tape, k.output, k.size, k.block⟩, f⟩
theorem pput_arg (y : Lay) (at_ : Int) (kind : UInt8) (mark : Int) (len : Nat) (A : Option Addr) (cap : Nat) (w : World) (base : Nat) (h : DiskOK w base y) (hno : y.abs.has at_ = false ∨ kind = 0) :
    Calls Tryz.prog 66 #[.pointer (some ⟨y.D, 0, none⟩), .int .i64 at_, .int .u8 (kind.toNat : Int), .int .i64 mark, .slice A len cap] w (RetPut w base y 0 1 y.abs) := by
  have hl2 := h.l2
  have hN : ∀ q, Next w base y y.abs (w.drewN q) := fun q => ⟨y, h.frame fun _ _ => rfl, rfl, rfl, ⟨rfl, rfl, rfl, Nat.le_refl _, fun _ _ _ => rfl⟩, fun _ hk => .inl hk⟩
  have HN := Lib.hid hN
  clear hN
  have hh := hasB_abs y at_
  rw [hh] at hno
  clear hh
  by_cases h0 : at_ < 0
  · have d0 : decide (at_ < 0) = true := by simpa using h0
    clear hno
    go_enter Tryz.func66, Tryz.ntmps66
    go_wp2_with fail
    refine (size_calls y w base h).mono ?_
    rintro e w1 ⟨rfl, q, rfl⟩
    go_wp2
    go_ret2
    exact ⟨rfl, HN.out q⟩
  have d0 : decide (at_ < 0) = false := by simpa using h0
  by_cases h1 : (y.lp.length : Int) ≤ at_
  · have d1 : decide ((y.lp.length : Int) ≤ at_) = true := by simpa using h1
    clear hno
    go_enter Tryz.func66, Tryz.ntmps66
    go_wp2_with fail
    refine (size_calls y w base h).mono ?_
    rintro e w1 ⟨rfl, q, rfl⟩
    go_wp2
    go_ret2
    exact ⟨rfl, HN.out q⟩
  have d1 : decide ((y.lp.length : Int) ≤ at_) = false := by simpa using h1
  have hk : kind = 0 := by
    rcases hno with hno | hno
    · simp [hasB] at hno; omega
    · exact hno
  subst hk
  have hk0 : ((0 : UInt8).toNat : Int) = 0 := rfl
  rw [hk0]
  clear hno hk0
  go_enter Tryz.func66, Tryz.ntmps66
  go_wp2_with fail
  refine (size_calls y w base h).mono ?_
  rintro e w1 ⟨rfl, q, rfl⟩
  go_wp2
  go_ret2
  exact ⟨rfl, HN.out q⟩
theorem kind_ne {kind : UInt8} (h : kind ≠ 0) : ((kind.toNat : Int) == 0) = false := by
  have : ¬ kind.toNat = 0 := fun e => h (by rw [← UInt8.toNat_inj, e]; rfl)
  simp; omega
theorem pput_room (y : Lay) (at_ : Int) (kind : UInt8) (mark : Int) (len : Nat) (A : Option Addr) (cap : Nat) (w : World) (base : Nat) (h : DiskOK w base y) (h0 : 0 ≤ at_) (h1 : at_ < y.lp.length) (hk : kind ≠ 0) (hf : fitsB y at_ len = false) (_hlen : len ≤ 9223372036854775807) :
    Calls Tryz.prog 66 #[.pointer (some ⟨y.D, 0, none⟩), .int .i64 at_, .int .u8 (kind.toNat : Int), .int .i64 mark, .slice A len cap] w (RetPut w base y 0 5 y.abs) := by
  have hl2 := h.l2
  have hN : ∀ q, Next w base y y.abs (w.drewN q) := fun q => ⟨y, h.frame fun _ _ => rfl, rfl, rfl, ⟨rfl, rfl, rfl, Nat.le_refl _, fun _ _ _ => rfl⟩, fun _ hk => .inl hk⟩
  have HN := Lib.hid hN
  have HF := Lib.hid hf
  clear hN hf
  have d0 : decide (at_ < 0) = false := by simp; omega
  have d1 : decide ((y.lp.length : Int) ≤ at_) = false := by simp; omega
  have dk := kind_ne hk
  clear hk
  go_enter Tryz.func66, Tryz.ntmps66
  go_wp2_with fail
  refine (size_calls y w base h).mono ?_
  rintro e w1 ⟨rfl, q, rfl⟩
  go_wp2_with fail
  refine (fits_calls y at_ len (w.drewN q) base (h.drewN q) h0 h1).mono ?_
  rintro e w2 ⟨rfl, q2, rfl⟩
  rw [HF.out]
  go_wp2
  go_ret2
  refine ⟨rfl, ?_⟩
  obtain ⟨y', h', a, d, k, f⟩ := HN.out q
  exact ⟨y', h'.frame fun _ _ => rfl, a, d, ⟨k.os, k.tape, k.output, k.size, k.block⟩, f⟩
/-- A slice from a place on. -/
theorem RVF.drop {w : World} {F : Nat → Prop} {A : Option Addr} {vs : List Value} (h : RVF w F A vs) (k cap : Nat) (hc : vs.length ≤ cap) : RVF w F (if cap = k then A else A.map (·.add k)) (vs.drop k) := by
  intro hne
  have hk : k < vs.length := by
    rcases Nat.lt_or_ge k vs.length with h | h
    · exact h
    · exact absurd (List.drop_of_length_le h) hne
  obtain ⟨b, off, rfl, hb, hF, hcell⟩ := h (by rintro rfl; simp at hk)
  rw [if_neg (by omega)]
  refine ⟨b, off + k, ?_, hb, hF, fun j v hj => ?_⟩
  · simp only [Option.map_some]
    congr 1
    unfold Addr.add
    split <;> simp_all
  · rw [List.getElem?_drop] at hj
    rw [Nat.add_assoc]
    exact hcell _ _ hj
/-- The world under a name of its own, at a call. -/
theorem calls_abs {P : Program} {f : FuncId} {args : Array Value} {w : World} {Q : Ending → World → Prop} (S : World → Prop) (hS : S w) (h : ∀ w', S w' → Calls P f args w' Q) : Calls P f args w Q := h w hS
theorem put_step (d : Dsk) (a j : Nat) (kind : UInt8) (mark : Int) (b : List UInt8) (h19 : 18 ≤ d.size) (ha : a + j < d.last.length) (n : Int) (hn : n = ((a + j : Nat) : Int)) :
    (putD d a kind mark b j).writeE n (sect d.size kind mark (b.drop (j * (d.size - 18))) (j == 0)) = (if d.off then 10 else 0) ∧
    (d.off = false → (putD d a kind mark b j).writeS n (sect d.size kind mark (b.drop (j * (d.size - 18))) (j == 0)) = putD d a kind mark b (j + 1)) := by
  subst hn
  have hE : (putD d a kind mark b j).writeE ((a + j : Nat) : Int) (sect d.size kind mark (b.drop (j * (d.size - 18))) (j == 0)) = (if d.off then 10 else 0) := by
    unfold Dsk.writeE
    have hh : (putD d a kind mark b j).has ((a + j : Nat) : Int) = true := by
      unfold Dsk.has putD
      simp
      omega
    rw [hh, if_neg (by decide), sect_len _ _ _ _ _ h19]
    have : (putD d a kind mark b j).size = d.size := rfl
    rw [this, if_neg (by simp)]
    rfl
  refine ⟨hE, fun ho => ?_⟩
  unfold DiskP.Dsk.writeS
  rw [hE, ho, show (if (false = true) then (10 : Int) else 0) = 0 from rfl, if_pos rfl, putD_succ, Int.toNat_natCast]
/-- Put in the midst of its sectors. -/
structure Putting (w : World) (base : Nat) (y0 : Lay) (a : Nat) (kind : UInt8) (mark : Int) (b : List UInt8) (k : Nat) (v : Value) (wr : World) : Prop where
  disk : ∃ y, DiskOK wr base y ∧ y.abs = putD y0.abs a kind mark b k ∧ y.D = y0.D ∧ Kept y0.foot w wr ∧ (∀ j, y.foot j → y0.foot j ∨ w.heap.size ≤ j) ∧
    ∃ A cap, v = .slice A (b.drop (k * (y0.size - 18))).length cap ∧ (b.drop (k * (y0.size - 18))).length ≤ cap ∧ cap ≤ 9223372036854775807 ∧ RVF wr (fun j => y0.foot j ∨ w.heap.size ≤ j) A (cB (b.drop (k * (y0.size - 18))))
  tab : Tab wr
  off : y0.off = true → k = 0
set_option maxHeartbeats 3200000 in
set_option maxRecDepth 100000 in
theorem pput_on (y : Lay) (a : Nat) (kind : UInt8) (mark : Int) (b : List UInt8) (A : Option Addr) (cap : Nat) (w : World) (base : Nat) (h : DiskOK w base y) (hT : Tab w) (_hb : base ≤ w.heap.size) (hR : RVF w y.foot A (cB b)) (hc : b.length ≤ cap) (hcap : cap ≤ 9223372036854775807)
    (h1 : a < y.lp.length) (hk : kind ≠ 0) (nn : Nat) (hnn : need y.size b.length = (nn : Int)) (hn1 : 1 ≤ nn) (hfit : a + nn ≤ y.lp.length) (h19 : 19 ≤ y.size) (hw : y.wp.length ≤ 1000000) (hg : 2 < base) (k : Int) (S : Dsk) (nr : Int)
    (hoff : if y.off then k = 10 ∧ nr = 0 ∧ S = y.abs else k = 0 ∧ nr = nn ∧ S = putD y.abs a kind mark b nn) :
    Calls Tryz.prog 66 #[.pointer (some ⟨y.D, 0, none⟩), .int .i64 (a : Int), .int .u8 (kind.toNat : Int), .int .i64 mark, .slice A b.length cap] w (RetPut w base y nr k S) := by
  have hl2 := h.l2
  have hs2 := h.s2
  have HF : Hid (fitsB y (a : Int) b.length = true) := by
    show _ = _
    unfold fitsB
    rw [hnn]
    simp
    omega
  have NC := fun w => pneed_calls (y.size : Int) (b.length : Int) w
  rw [hnn] at NC
  have HNN := Lib.hid hnn
  clear hnn
  have d0 : decide ((a : Int) < 0) = false := by simp
  have d1 : decide ((y.lp.length : Int) ≤ (a : Int)) = false := by simp; omega
  have d1' : decide (y.lp.length ≤ a) = false := by simp; omega
  have dk := kind_ne hk
  have hmk := run_make_n el_u8 rfl y.size (by omega) (by omega)
  go_enter Tryz.func66, Tryz.ntmps66
  go_wp2_with fail
  refine (size_calls y w base h).mono ?_
  rintro e w1 ⟨rfl, q, rfl⟩
  go_wp2_with fail
  refine (fits_calls y (a : Int) b.length (w.drewN q) base (h.drewN q) (by omega) (by omega)).mono ?_
  rintro e w2 ⟨rfl, q2, rfl⟩
  rw [HF.out]
  go_wp2_with fail
  refine (NC _).mono ?_
  rintro e w3 ⟨rfl, rfl⟩
  have P0 : Putting w base y a kind mark b 0 (.slice A b.length cap) (w.drewN (q + q2)) := by
    refine ⟨⟨y, h.drewN (q + q2), by rw [putD_zero], rfl, ⟨rfl, rfl, rfl, Nat.le_refl _, fun _ _ _ => rfl⟩, fun _ hj => .inl hj, A, cap, by simp, by simpa using hc, hcap, ?_⟩, hT, fun _ => rfl⟩
    simp only [Nat.zero_mul, List.drop_zero]
    intro hne
    obtain ⟨bb, off, e, hb1, hb2, hb3⟩ := hR hne
    exact ⟨bb, off, e, hb1, fun hf => by rcases hf with hf | hf; exact hb2 hf; omega, hb3⟩
  clear NC
  go_wp2
  go_loopw [4, 15, 16, 17, 18, 48] (fun v _ _ _ _ i wr => ∃ k : Nat, k ≤ nn ∧ i = .int .i64 k ∧ Putting w base y a kind mark b k v wr) (fun _ _ _ _ _ i _ => nn - (intOf i).toNat)
  case atStart => exact ⟨0, by omega, rfl, P0⟩
  case round =>
    clear P0
    obtain ⟨j, hj, rfl, ⟨yj, hd, ha, hD, hkp, hft, A1, c1, rfl, hlc, hcm, hrv⟩, tab, hof⟩ := hrel
    by_cases hlt : j < nn
    · have hdec : decide ((j : Int) < (nn : Int)) = true := by simp; omega
      have hdec' : decide (j < nn) = true := by simp; omega
      obtain ⟨bj, HBJ⟩ : ∃ bj, Hid (b.drop (j * (y.size - 18)) = bj) := ⟨_, rfl⟩
      rw [HBJ.out] at hrv hlc ⊢
      have hblen : bj.length ≤ 1073741824 := by
        have := (need_pos (size := y.size) (bytes := b.length) (by rw [HNN.out]; omega)).2.2.2
        rw [← HBJ.out, List.length_drop]
        omega
      have h19' : (19 : Int) ≤ (y.size : Int) := by omega
      have hr0 : (rep y.size (.int .u8 0))[0]? = some (.int .u8 0) := rep_at (by omega)
      go_wp2_with fail
      refine calls_abs (fun w5 => Blk w5 wr.heap.size 5 (cB (row1 y.size kind)).toArray ∧ Below wr.heap.size wr w5) ?i2 ?_
      case i2 =>
        refine ⟨?_, (Below.refl _ _).alloc (Nat.le_refl _) _⟩
        have e : (rep y.size (.int .u8 0)).setIfInBounds 0 (.int .u8 (kind.toNat : Int)) = (cB (row1 y.size kind)).toArray := by
          rw [show rep y.size (.int .u8 0) = (cB (List.replicate y.size 0)).toArray by simp [rep, cB, byteV], cB_set]
          rfl
        rw [e]
        exact Blk.new wr _ _
      rintro w5 ⟨bk5, b5⟩
      clear hr0
      have L1 := row1_len y.size kind
      have L2 := row2_len y.size kind mark h19
      have L3 := row3_len y.size kind mark bj.length h19
      have C1 := bput_calls (row1 y.size kind) wr.heap.size 1 8 (y.size - 1) (mk64 mark) w5 bk5 (by omega) (by omega) (by omega) (mk64_lt mark)
      rw [← mk64_int] at C1
      rw [u64_wrap mark]
      refine C1.mono ?_
      clear C1
      rintro e w6 ⟨rfl, bk6, k6⟩
      replace bk6 : Blk w6 wr.heap.size 5 (cB (row2 y.size kind mark)).toArray := bk6
      have b6 : Below wr.heap.size wr w6 := b5.trans (k6.below (fun k _ hk => by omega) b5.size)
      have C2 := bput_calls (row2 y.size kind mark) wr.heap.size 9 4 (y.size - 9) bj.length w6 bk6 (by omega) (by omega) (by omega) (by omega)
      clear bk5 b5 k6
      go_wp2_with fail
      refine C2.mono ?_
      clear C2
      rintro e w7 ⟨rfl, bk7, k7⟩
      replace bk7 : Blk w7 wr.heap.size 5 (cB (row3 y.size kind mark bj.length)).toArray := bk7
      have b7 : Below wr.heap.size wr w7 := b6.trans (k7.below (fun k _ hk => by omega) b6.size)
      clear bk6 b6 k7
      obtain ⟨c13, hc13⟩ : ∃ c, (row3 y.size kind mark bj.length)[13]? = some c := ⟨_, List.getElem?_eq_getElem (by omega)⟩
      have g13 := cB_cell bk7 hc13
      have z13 := bk7.frozen 13
      clear hc13
      have rv7 : RVF w7 (fun j => y.foot j ∨ w.heap.size ≤ j) A1 (cB bj) := hrv.below b7
      by_cases hj0 : j = 0
      · subst hj0
        have BK8 : Blk (w7.setCell ⟨wr.heap.size, 13, none⟩ (.int .u8 1)) wr.heap.size 5 (cB (row4 y.size kind mark bj.length true)).toArray := by
          have := bk7.set_ 13 (.int .u8 ((1 : UInt8).toNat : Int))
          rw [cB_set] at this
          exact this
        have BB8 : Below wr.heap.size wr (w7.setCell ⟨wr.heap.size, 13, none⟩ (.int .u8 1)) := b7.setCell (Nat.le_refl _) _
        have rv8 : RVF (w7.setCell ⟨wr.heap.size, 13, none⟩ (.int .u8 1)) (fun j => y.foot j ∨ w.heap.size ≤ j) A1 (cB bj) := hrv.below BB8
        clear rv7 b7 bk7
        have HCL : Hid ((cB (bj.take (y.size - 18))).length = min bj.length (y.size - 4 - 14)) := by show _ = _; rw [cB_len, List.length_take]; omega
        go_wp2_with ((with_reducible show wpList _ _ _ (⟨some 76, _, _, _, _, _⟩ :: _) _ _); refine wpList_copy_splice rfl (.tmp 74) (.tmp 75) 42 42 rfl 5 Tryz.underlying42 (by kernel_rfl) (some ⟨wr.heap.size, 14, none⟩) A1 (y.size - 4 - 14) (y.size - 14) bj.length c1 rfl rfl wr.heap.size 14 (cB (row4 y.size kind mark bj.length true)) 5 BK8 (cB (bj.take (y.size - 18))) HCL.out ?e1 ?e2 (cB_one _) wr.heap.size wr BB8 (Nat.le_refl _) ?_)
        case e1 =>
          intro hpos
          have hne : cB bj ≠ [] := fun e => by have := cB_len bj; rw [e] at this; simp only [cB_len, List.length_take, List.length_nil] at hpos this; omega
          obtain ⟨ob, oo, e, hb1, hb2, hb3⟩ := rv8 hne
          refine ⟨⟨ob, oo, none⟩, e, fun i v hv => ?_⟩
          have hadd : (⟨ob, oo, none⟩ : Addr).add i = ⟨ob, oo + i, none⟩ := by unfold Addr.add; split <;> simp_all
          rw [hadd]
          refine hb3 i v ?_
          have e2 : cB (bj.take (y.size - 18)) = (cB bj).take (y.size - 18) := by simp [cB]
          rw [e2] at hv
          rw [List.getElem?_take] at hv
          split at hv
          · exact hv
          · cases hv
        case e2 => rw [cB_len, cB_len, List.length_take, row4_len _ _ _ _ _ h19]; omega
        intro w9 H9 b9
        have bk9 : Blk w9 wr.heap.size 5 (cB (row5 y.size kind mark bj true)).toArray := by
          have e : splice (cB (row4 y.size kind mark bj.length true)) 14 (cB (bj.take (y.size - 18))) = cB (row5 y.size kind mark bj true) := by simp [splice, row5, spl, cB]
          have := H9.out
          rw [e] at this
          exact this
        clear H9 BK8 BB8
        obtain ⟨mm, HMM⟩ : ∃ mm, Hid ((cB (bj.take (y.size - 18))).length = mm) := ⟨_, rfl⟩
        have hm1 : mm ≤ bj.length := by rw [← HMM.out, HCL.out]; omega
        have hm2 : mm ≤ c1 := by omega
        rw [HMM.out]
        have RD := hrv.drop mm c1 (by rw [cB_len]; exact hlc)
        have eD : (cB bj).drop mm = cB (b.drop ((0 + 1) * (y.size - 18))) := by
          have e1 : b.drop ((0 + 1) * (y.size - 18)) = bj.drop (y.size - 18) := by rw [← HBJ.out, List.drop_drop]; congr 1; rw [Nat.succ_mul]
          rw [e1]
          have e2 : mm = min (y.size - 18) bj.length := by rw [← HMM.out, cB_len, List.length_take]
          have e3 : bj.drop mm = bj.drop (y.size - 18) := by
            rw [e2]
            rcases Nat.le_total (y.size - 18) bj.length with h | h
            · rw [Nat.min_eq_left h]
            · rw [Nat.min_eq_right h, List.drop_of_length_le (Nat.le_refl _), List.drop_of_length_le h]
          rw [← e3]
          simp [cB]
        have eL : bj.length - mm = (b.drop ((0 + 1) * (y.size - 18))).length := by
          have := congrArg List.length eD
          rw [List.length_drop, cB_len, cB_len] at this
          exact this
        rw [eD] at RD
        have HEL := Lib.hid eL
        clear eD eL
        have rb9 : RB w9 (some ⟨wr.heap.size, 0, none⟩) ((row5 y.size kind mark bj true).take (y.size - 4)) := by
          rw [row5_take _ _ _ _ _ h19]
          have h5 := row5_eq y.size kind mark bj true h19
          intro hne
          refine ⟨_, _, rfl, bk9.lt, fun i v hv => ?_⟩
          rw [Nat.zero_add]
          refine bk9.at_ ?_
          rw [h5, cB_append]
          simp only [List.getElem?_toArray]
          have hi : i < (cB (body y.size kind mark bj true)).length := (List.getElem?_eq_some_iff.1 hv).1
          rw [List.getElem?_append_left hi]
          exact hv
        have tab9 : Tab w9 := tab.far (Kept.of_below b9 (fun _ => False)) (fun h => h)
        have L5 := row5_len y.size kind mark bj true h19
        have C9 := of_len ((row5 y.size kind mark bj true).take (y.size - 4)) (y.size - 4) (some ⟨wr.heap.size, 0, none⟩) y.size w9.drew tab9 (by rw [List.length_take]; omega) (by omega) rb9
        rw [row5_take _ _ _ _ _ h19] at C9
        have hcr := crc_lt (body y.size kind mark bj true)
        have C10 := bput_calls (row5 y.size kind mark bj true) wr.heap.size (y.size - 4) 4 4 (crc (body y.size kind mark bj true)) w9.drew bk9 (by omega) (by omega) (by omega) (by omega)
        rw [row6_eq _ _ _ _ _ h19] at C10
        generalize crc (body y.size kind mark bj true) = cr at C9 C10 hcr
        have HL5 := Lib.hid L5
        clear L5 L1 L2 L3 rb9 HCL
        by_cases hcm2 : c1 = mm
        · rw [if_pos hcm2] at RD
          go_wp2
          have wz4 : IntKind.i64.wrap ((y.size : Int) - 4) = ((y.size - 4 : Nat) : Int) := by rw [IntWalk.i64_in _ (by omega)]; omega
          have wz5 : y.size - 4 ≤ y.size := by omega
          have wz6 : (y.size = y.size - 4) = False := by simp; omega
          have wz7 : y.size - (y.size - 4) = 4 := by omega
          have wz8 : IntKind.u64.wrap (cr : Int) = (cr : Int) := by rw [u64_wrap]; omega
          go_region_held (fun _ => True) (trivial) (first
            | (go_at_call 113; (with_reducible refine C9.mono ?_); rintro e w9' ⟨rfl, rfl⟩)
            | (go_at_call 112; (with_reducible refine C10.mono ?_); rintro e w10 ⟨rfl, bk10, k10⟩))
          have b10 : Below wr.heap.size wr w10 := (b9.drew).trans (k10.below (fun k _ hk => by omega) b9.size)
          have hd10 := hd.below b10
          have LS := sect_len y.size kind mark bj true (by omega)
          have rb10 : RB w10 (some ⟨wr.heap.size, 0, none⟩) (sect y.size kind mark bj true) := RB.of_blk bk10 (by simp)
          have WC := write_at yj (a : Int) (sect y.size kind mark bj true) y.size (some ⟨wr.heap.size, 0, none⟩) y.size w10 base hd10 rb10 LS (by omega) (by rw [wlen, ha]; simp only [putD, secs, List.length_append, List.length_map, List.length_range]; rw [← wlen]; omega)
          have PS := put_step y.abs a 0 kind mark b (by show 18 ≤ y.size; omega) (by show a + 0 < (y.lp.map _).length; rw [List.length_map]; omega) (a : Int) (by omega)
          have hbj : b.drop (0 * (y.abs.size - 18)) = bj := HBJ.out
          rw [hbj] at PS
          replace PS : (putD y.abs a kind mark b 0).writeE (a : Int) (sect y.size kind mark bj true) = (if y.off then 10 else 0) ∧ (y.off = false → (putD y.abs a kind mark b 0).writeS (a : Int) (sect y.size kind mark bj true) = putD y.abs a kind mark b (0 + 1)) := PS
          rw [ha, hD, PS.1] at WC
          have HPS := Lib.hid PS.2
          clear PS hbj LS rb10 C9 C10
          go_wp2_with fail
          (with_reducible refine WC.mono ?_)
          clear WC
          rintro e w11 ⟨rfl, y11, h11, a11, d11, k11, f11⟩
          have K11 : Kept y.foot w w11 := (hkp.far (Kept.of_below b10 (fun _ => False)) (fun _ hf => hf.elim)).far k11 hft
          have F11 : ∀ i, y11.foot i → y.foot i ∨ w.heap.size ≤ i := fun i hi => by
            rcases f11 i hi with h | h
            · exact hft i h
            · have := hkp.size; have := b10.size; exact .inr (by omega)
          have T11 : Tab w11 := (tab.far (Kept.of_below b10 (fun _ => False)) (fun h => h)).far k11 (fun hf => by have := (hd10.foot_lt hf).1; omega)
          have R11 : RVF w11 (fun j => y.foot j ∨ w.heap.size ≤ j) A1 (cB (b.drop ((0 + 1) * (y.size - 18)))) := (RD.below b10).kept (k11.mono fun i _ hi => hft i hi)
          cases hyo : y.off
          · rw [HPS.out hyo] at a11
            have PN : Putting w base y a kind mark b (0 + 1) (.slice A1 (bj.length - mm) 0) w11 :=
              ⟨⟨y11, h11, a11, d11.trans hD, K11, F11, A1, 0, by rw [HEL.out], by rw [← HEL.out]; omega, by omega, R11⟩, T11, fun ho => by rw [hyo] at ho; cases ho⟩
            have HPN := Lib.hid PN
            clear PN K11 F11 T11 R11 k11 f11 h11 a11 hyo hd10 b10 k10 bk10
            go_wp2
            go_roundw
            case rel => exact ⟨0 + 1, by omega, by go_num, HPN.out⟩
            case measure => simp [intOf]; omega
          · have hWS : (putD y.abs a kind mark b 0).writeS (a : Int) (sect y.size kind mark bj true) = y.abs := by
              unfold DiskP.Dsk.writeS
              rw [if_neg, putD_zero]
              have := put_step y.abs a 0 kind mark b (by show 18 ≤ y.size; omega) (by show a + 0 < (y.lp.map _).length; rw [List.length_map]; omega) (a : Int) (by omega)
              have hbj : b.drop (0 * (y.abs.size - 18)) = bj := HBJ.out
              rw [hbj] at this
              have h10 : (putD y.abs a kind mark b 0).writeE (a : Int) (sect y.size kind mark bj true) = 10 := by rw [show (putD y.abs a kind mark b 0).writeE (a : Int) (sect y.size kind mark bj true) = if y.abs.off then 10 else 0 from this.1, show y.abs.off = true from hyo]; rfl
              rw [h10]; decide
            rw [hWS] at a11
            rw [hyo] at hoff
            obtain ⟨rfl, rfl, rfl⟩ := hoff
            have NX : Next w base y y.abs w11 := ⟨y11, h11, a11, d11.trans hD, K11, F11⟩
            have HNX := Lib.hid NX
            clear NX K11 F11 T11 R11 k11 f11 h11 a11 hyo hd10 b10 k10 bk10 hWS
            go_wp2
            go_ret2
            exact ⟨rfl, HNX.out⟩
        · rw [if_neg hcm2] at RD
          go_wp2
          have wz4 : IntKind.i64.wrap ((y.size : Int) - 4) = ((y.size - 4 : Nat) : Int) := by rw [IntWalk.i64_in _ (by omega)]; omega
          have wz5 : y.size - 4 ≤ y.size := by omega
          have wz6 : (y.size = y.size - 4) = False := by simp; omega
          have wz7 : y.size - (y.size - 4) = 4 := by omega
          have wz8 : IntKind.u64.wrap (cr : Int) = (cr : Int) := by rw [u64_wrap]; omega
          go_region_held (fun _ => True) (trivial) (first
            | (go_at_call 113; (with_reducible refine C9.mono ?_); rintro e w9' ⟨rfl, rfl⟩)
            | (go_at_call 112; (with_reducible refine C10.mono ?_); rintro e w10 ⟨rfl, bk10, k10⟩))
          have b10 : Below wr.heap.size wr w10 := (b9.drew).trans (k10.below (fun k _ hk => by omega) b9.size)
          have hd10 := hd.below b10
          have LS := sect_len y.size kind mark bj true (by omega)
          have rb10 : RB w10 (some ⟨wr.heap.size, 0, none⟩) (sect y.size kind mark bj true) := RB.of_blk bk10 (by simp)
          have WC := write_at yj (a : Int) (sect y.size kind mark bj true) y.size (some ⟨wr.heap.size, 0, none⟩) y.size w10 base hd10 rb10 LS (by omega) (by rw [wlen, ha]; simp only [putD, secs, List.length_append, List.length_map, List.length_range]; rw [← wlen]; omega)
          have PS := put_step y.abs a 0 kind mark b (by show 18 ≤ y.size; omega) (by show a + 0 < (y.lp.map _).length; rw [List.length_map]; omega) (a : Int) (by omega)
          have hbj : b.drop (0 * (y.abs.size - 18)) = bj := HBJ.out
          rw [hbj] at PS
          replace PS : (putD y.abs a kind mark b 0).writeE (a : Int) (sect y.size kind mark bj true) = (if y.off then 10 else 0) ∧ (y.off = false → (putD y.abs a kind mark b 0).writeS (a : Int) (sect y.size kind mark bj true) = putD y.abs a kind mark b (0 + 1)) := PS
          rw [ha, hD, PS.1] at WC
          have HPS := Lib.hid PS.2
          clear PS hbj LS rb10 C9 C10
          go_wp2_with fail
          (with_reducible refine WC.mono ?_)
          clear WC
          rintro e w11 ⟨rfl, y11, h11, a11, d11, k11, f11⟩
          have K11 : Kept y.foot w w11 := (hkp.far (Kept.of_below b10 (fun _ => False)) (fun _ hf => hf.elim)).far k11 hft
          have F11 : ∀ i, y11.foot i → y.foot i ∨ w.heap.size ≤ i := fun i hi => by
            rcases f11 i hi with h | h
            · exact hft i h
            · have := hkp.size; have := b10.size; exact .inr (by omega)
          have T11 : Tab w11 := (tab.far (Kept.of_below b10 (fun _ => False)) (fun h => h)).far k11 (fun hf => by have := (hd10.foot_lt hf).1; omega)
          have R11 : RVF w11 (fun j => y.foot j ∨ w.heap.size ≤ j) (A1.map (·.add mm)) (cB (b.drop ((0 + 1) * (y.size - 18)))) := (RD.below b10).kept (k11.mono fun i _ hi => hft i hi)
          cases hyo : y.off
          · rw [HPS.out hyo] at a11
            have PN : Putting w base y a kind mark b (0 + 1) (.slice (A1.map (·.add mm)) (bj.length - mm) (c1 - mm)) w11 :=
              ⟨⟨y11, h11, a11, d11.trans hD, K11, F11, (A1.map (·.add mm)), c1 - mm, by rw [HEL.out], by rw [← HEL.out]; omega, by omega, R11⟩, T11, fun ho => by rw [hyo] at ho; cases ho⟩
            have HPN := Lib.hid PN
            clear PN K11 F11 T11 R11 k11 f11 h11 a11 hyo hd10 b10 k10 bk10
            go_wp2
            go_roundw
            case rel => exact ⟨0 + 1, by omega, by go_num, HPN.out⟩
            case measure => simp [intOf]; omega
          · have hWS : (putD y.abs a kind mark b 0).writeS (a : Int) (sect y.size kind mark bj true) = y.abs := by
              unfold DiskP.Dsk.writeS
              rw [if_neg, putD_zero]
              have := put_step y.abs a 0 kind mark b (by show 18 ≤ y.size; omega) (by show a + 0 < (y.lp.map _).length; rw [List.length_map]; omega) (a : Int) (by omega)
              have hbj : b.drop (0 * (y.abs.size - 18)) = bj := HBJ.out
              rw [hbj] at this
              have h10 : (putD y.abs a kind mark b 0).writeE (a : Int) (sect y.size kind mark bj true) = 10 := by rw [show (putD y.abs a kind mark b 0).writeE (a : Int) (sect y.size kind mark bj true) = if y.abs.off then 10 else 0 from this.1, show y.abs.off = true from hyo]; rfl
              rw [h10]; decide
            rw [hWS] at a11
            rw [hyo] at hoff
            obtain ⟨rfl, rfl, rfl⟩ := hoff
            have NX : Next w base y y.abs w11 := ⟨y11, h11, a11, d11.trans hD, K11, F11⟩
            have HNX := Lib.hid NX
            clear NX K11 F11 T11 R11 k11 f11 h11 a11 hyo hd10 b10 k10 bk10 hWS
            go_wp2
            go_ret2
            exact ⟨rfl, HNX.out⟩
      · have ej : ((j : Int) == 0) = false := by simp; omega
        have ej' : (j == 0) = false := by simp; omega
        have BK8 : Blk w7 wr.heap.size 5 (cB (row4 y.size kind mark bj.length false)).toArray := bk7
        have BB8 := b7
        have rv8 := rv7
        clear rv7 b7 bk7
        have HCL : Hid ((cB (bj.take (y.size - 18))).length = min bj.length (y.size - 4 - 14)) := by show _ = _; rw [cB_len, List.length_take]; omega
        go_wp2_with ((with_reducible show wpList _ _ _ (⟨some 76, _, _, _, _, _⟩ :: _) _ _); refine wpList_copy_splice rfl (.tmp 74) (.tmp 75) 42 42 rfl 5 Tryz.underlying42 (by kernel_rfl) (some ⟨wr.heap.size, 14, none⟩) A1 (y.size - 4 - 14) (y.size - 14) bj.length c1 rfl rfl wr.heap.size 14 (cB (row4 y.size kind mark bj.length false)) 5 BK8 (cB (bj.take (y.size - 18))) HCL.out ?e1 ?e2 (cB_one _) wr.heap.size wr BB8 (Nat.le_refl _) ?_)
        case e1 =>
          intro hpos
          have hne : cB bj ≠ [] := fun e => by have := cB_len bj; rw [e] at this; simp only [cB_len, List.length_take, List.length_nil] at hpos this; omega
          obtain ⟨ob, oo, e, hb1, hb2, hb3⟩ := rv8 hne
          refine ⟨⟨ob, oo, none⟩, e, fun i v hv => ?_⟩
          have hadd : (⟨ob, oo, none⟩ : Addr).add i = ⟨ob, oo + i, none⟩ := by unfold Addr.add; split <;> simp_all
          rw [hadd]
          refine hb3 i v ?_
          have e2 : cB (bj.take (y.size - 18)) = (cB bj).take (y.size - 18) := by simp [cB]
          rw [e2] at hv
          rw [List.getElem?_take] at hv
          split at hv
          · exact hv
          · cases hv
        case e2 => rw [cB_len, cB_len, List.length_take, row4_len _ _ _ _ _ h19]; omega
        intro w9 H9 b9
        have bk9 : Blk w9 wr.heap.size 5 (cB (row5 y.size kind mark bj false)).toArray := by
          have e : splice (cB (row4 y.size kind mark bj.length false)) 14 (cB (bj.take (y.size - 18))) = cB (row5 y.size kind mark bj false) := by simp [splice, row5, spl, cB]
          have := H9.out
          rw [e] at this
          exact this
        clear H9 BK8 BB8
        obtain ⟨mm, HMM⟩ : ∃ mm, Hid ((cB (bj.take (y.size - 18))).length = mm) := ⟨_, rfl⟩
        have hm1 : mm ≤ bj.length := by rw [← HMM.out, HCL.out]; omega
        have hm2 : mm ≤ c1 := by omega
        rw [HMM.out]
        have RD := hrv.drop mm c1 (by rw [cB_len]; exact hlc)
        have eD : (cB bj).drop mm = cB (b.drop ((j + 1) * (y.size - 18))) := by
          have e1 : b.drop ((j + 1) * (y.size - 18)) = bj.drop (y.size - 18) := by rw [← HBJ.out, List.drop_drop]; congr 1; rw [Nat.succ_mul]
          rw [e1]
          have e2 : mm = min (y.size - 18) bj.length := by rw [← HMM.out, cB_len, List.length_take]
          have e3 : bj.drop mm = bj.drop (y.size - 18) := by
            rw [e2]
            rcases Nat.le_total (y.size - 18) bj.length with h | h
            · rw [Nat.min_eq_left h]
            · rw [Nat.min_eq_right h, List.drop_of_length_le (Nat.le_refl _), List.drop_of_length_le h]
          rw [← e3]
          simp [cB]
        have eL : bj.length - mm = (b.drop ((j + 1) * (y.size - 18))).length := by
          have := congrArg List.length eD
          rw [List.length_drop, cB_len, cB_len] at this
          exact this
        rw [eD] at RD
        have HEL := Lib.hid eL
        clear eD eL
        have rb9 : RB w9 (some ⟨wr.heap.size, 0, none⟩) ((row5 y.size kind mark bj false).take (y.size - 4)) := by
          rw [row5_take _ _ _ _ _ h19]
          have h5 := row5_eq y.size kind mark bj false h19
          intro hne
          refine ⟨_, _, rfl, bk9.lt, fun i v hv => ?_⟩
          rw [Nat.zero_add]
          refine bk9.at_ ?_
          rw [h5, cB_append]
          simp only [List.getElem?_toArray]
          have hi : i < (cB (body y.size kind mark bj false)).length := (List.getElem?_eq_some_iff.1 hv).1
          rw [List.getElem?_append_left hi]
          exact hv
        have tab9 : Tab w9 := tab.far (Kept.of_below b9 (fun _ => False)) (fun h => h)
        have L5 := row5_len y.size kind mark bj false h19
        have C9 := of_len ((row5 y.size kind mark bj false).take (y.size - 4)) (y.size - 4) (some ⟨wr.heap.size, 0, none⟩) y.size w9.drew tab9 (by rw [List.length_take]; omega) (by omega) rb9
        rw [row5_take _ _ _ _ _ h19] at C9
        have hcr := crc_lt (body y.size kind mark bj false)
        have C10 := bput_calls (row5 y.size kind mark bj false) wr.heap.size (y.size - 4) 4 4 (crc (body y.size kind mark bj false)) w9.drew bk9 (by omega) (by omega) (by omega) (by omega)
        rw [row6_eq _ _ _ _ _ h19] at C10
        generalize crc (body y.size kind mark bj false) = cr at C9 C10 hcr
        have HL5 := Lib.hid L5
        clear L5 L1 L2 L3 rb9 HCL
        by_cases hcm2 : c1 = mm
        · rw [if_pos hcm2] at RD
          go_wp2
          have wz4 : IntKind.i64.wrap ((y.size : Int) - 4) = ((y.size - 4 : Nat) : Int) := by rw [IntWalk.i64_in _ (by omega)]; omega
          have wz5 : y.size - 4 ≤ y.size := by omega
          have wz6 : (y.size = y.size - 4) = False := by simp; omega
          have wz7 : y.size - (y.size - 4) = 4 := by omega
          have wz8 : IntKind.u64.wrap (cr : Int) = (cr : Int) := by rw [u64_wrap]; omega
          go_region_held (fun _ => True) (trivial) (first
            | (go_at_call 113; (with_reducible refine C9.mono ?_); rintro e w9' ⟨rfl, rfl⟩)
            | (go_at_call 112; (with_reducible refine C10.mono ?_); rintro e w10 ⟨rfl, bk10, k10⟩))
          have b10 : Below wr.heap.size wr w10 := (b9.drew).trans (k10.below (fun k _ hk => by omega) b9.size)
          have hd10 := hd.below b10
          have LS := sect_len y.size kind mark bj false (by omega)
          have rb10 : RB w10 (some ⟨wr.heap.size, 0, none⟩) (sect y.size kind mark bj false) := RB.of_blk bk10 (by simp)
          have WC := write_at yj ((a : Int) + (j : Int)) (sect y.size kind mark bj false) y.size (some ⟨wr.heap.size, 0, none⟩) y.size w10 base hd10 rb10 LS (by omega) (by rw [wlen, ha]; simp only [putD, secs, List.length_append, List.length_map, List.length_range]; rw [← wlen]; omega)
          have PS := put_step y.abs a j kind mark b (by show 18 ≤ y.size; omega) (by show a + j < (y.lp.map _).length; rw [List.length_map]; omega) ((a : Int) + (j : Int)) (by omega)
          have hbj : b.drop (j * (y.abs.size - 18)) = bj := HBJ.out
          rw [hbj] at PS
          replace PS : (putD y.abs a kind mark b j).writeE ((a : Int) + (j : Int)) (sect y.size kind mark bj false) = (if y.off then 10 else 0) ∧ (y.off = false → (putD y.abs a kind mark b j).writeS ((a : Int) + (j : Int)) (sect y.size kind mark bj false) = putD y.abs a kind mark b (j + 1)) := by rw [ej'] at PS; exact PS
          rw [ha, hD, PS.1] at WC
          have HPS := Lib.hid PS.2
          clear PS hbj LS rb10 C9 C10
          go_wp2_with fail
          (with_reducible refine WC.mono ?_)
          clear WC
          rintro e w11 ⟨rfl, y11, h11, a11, d11, k11, f11⟩
          have K11 : Kept y.foot w w11 := (hkp.far (Kept.of_below b10 (fun _ => False)) (fun _ hf => hf.elim)).far k11 hft
          have F11 : ∀ i, y11.foot i → y.foot i ∨ w.heap.size ≤ i := fun i hi => by
            rcases f11 i hi with h | h
            · exact hft i h
            · have := hkp.size; have := b10.size; exact .inr (by omega)
          have T11 : Tab w11 := (tab.far (Kept.of_below b10 (fun _ => False)) (fun h => h)).far k11 (fun hf => by have := (hd10.foot_lt hf).1; omega)
          have R11 : RVF w11 (fun j => y.foot j ∨ w.heap.size ≤ j) A1 (cB (b.drop ((j + 1) * (y.size - 18)))) := (RD.below b10).kept (k11.mono fun i _ hi => hft i hi)
          cases hyo : y.off
          · rw [HPS.out hyo] at a11
            have PN : Putting w base y a kind mark b (j + 1) (.slice A1 (bj.length - mm) 0) w11 :=
              ⟨⟨y11, h11, a11, d11.trans hD, K11, F11, A1, 0, by rw [HEL.out], by rw [← HEL.out]; omega, by omega, R11⟩, T11, fun ho => by rw [hyo] at ho; cases ho⟩
            have HPN := Lib.hid PN
            clear PN K11 F11 T11 R11 k11 f11 h11 a11 hyo hd10 b10 k10 bk10
            go_wp2
            go_roundw
            case rel => exact ⟨j + 1, by omega, by go_num, HPN.out⟩
            case measure => simp [intOf]; omega
          · exfalso; exact hj0 (hof hyo)
        · rw [if_neg hcm2] at RD
          go_wp2
          have wz4 : IntKind.i64.wrap ((y.size : Int) - 4) = ((y.size - 4 : Nat) : Int) := by rw [IntWalk.i64_in _ (by omega)]; omega
          have wz5 : y.size - 4 ≤ y.size := by omega
          have wz6 : (y.size = y.size - 4) = False := by simp; omega
          have wz7 : y.size - (y.size - 4) = 4 := by omega
          have wz8 : IntKind.u64.wrap (cr : Int) = (cr : Int) := by rw [u64_wrap]; omega
          go_region_held (fun _ => True) (trivial) (first
            | (go_at_call 113; (with_reducible refine C9.mono ?_); rintro e w9' ⟨rfl, rfl⟩)
            | (go_at_call 112; (with_reducible refine C10.mono ?_); rintro e w10 ⟨rfl, bk10, k10⟩))
          have b10 : Below wr.heap.size wr w10 := (b9.drew).trans (k10.below (fun k _ hk => by omega) b9.size)
          have hd10 := hd.below b10
          have LS := sect_len y.size kind mark bj false (by omega)
          have rb10 : RB w10 (some ⟨wr.heap.size, 0, none⟩) (sect y.size kind mark bj false) := RB.of_blk bk10 (by simp)
          have WC := write_at yj ((a : Int) + (j : Int)) (sect y.size kind mark bj false) y.size (some ⟨wr.heap.size, 0, none⟩) y.size w10 base hd10 rb10 LS (by omega) (by rw [wlen, ha]; simp only [putD, secs, List.length_append, List.length_map, List.length_range]; rw [← wlen]; omega)
          have PS := put_step y.abs a j kind mark b (by show 18 ≤ y.size; omega) (by show a + j < (y.lp.map _).length; rw [List.length_map]; omega) ((a : Int) + (j : Int)) (by omega)
          have hbj : b.drop (j * (y.abs.size - 18)) = bj := HBJ.out
          rw [hbj] at PS
          replace PS : (putD y.abs a kind mark b j).writeE ((a : Int) + (j : Int)) (sect y.size kind mark bj false) = (if y.off then 10 else 0) ∧ (y.off = false → (putD y.abs a kind mark b j).writeS ((a : Int) + (j : Int)) (sect y.size kind mark bj false) = putD y.abs a kind mark b (j + 1)) := by rw [ej'] at PS; exact PS
          rw [ha, hD, PS.1] at WC
          have HPS := Lib.hid PS.2
          clear PS hbj LS rb10 C9 C10
          go_wp2_with fail
          (with_reducible refine WC.mono ?_)
          clear WC
          rintro e w11 ⟨rfl, y11, h11, a11, d11, k11, f11⟩
          have K11 : Kept y.foot w w11 := (hkp.far (Kept.of_below b10 (fun _ => False)) (fun _ hf => hf.elim)).far k11 hft
          have F11 : ∀ i, y11.foot i → y.foot i ∨ w.heap.size ≤ i := fun i hi => by
            rcases f11 i hi with h | h
            · exact hft i h
            · have := hkp.size; have := b10.size; exact .inr (by omega)
          have T11 : Tab w11 := (tab.far (Kept.of_below b10 (fun _ => False)) (fun h => h)).far k11 (fun hf => by have := (hd10.foot_lt hf).1; omega)
          have R11 : RVF w11 (fun j => y.foot j ∨ w.heap.size ≤ j) (A1.map (·.add mm)) (cB (b.drop ((j + 1) * (y.size - 18)))) := (RD.below b10).kept (k11.mono fun i _ hi => hft i hi)
          cases hyo : y.off
          · rw [HPS.out hyo] at a11
            have PN : Putting w base y a kind mark b (j + 1) (.slice (A1.map (·.add mm)) (bj.length - mm) (c1 - mm)) w11 :=
              ⟨⟨y11, h11, a11, d11.trans hD, K11, F11, (A1.map (·.add mm)), c1 - mm, by rw [HEL.out], by rw [← HEL.out]; omega, by omega, R11⟩, T11, fun ho => by rw [hyo] at ho; cases ho⟩
            have HPN := Lib.hid PN
            clear PN K11 F11 T11 R11 k11 f11 h11 a11 hyo hd10 b10 k10 bk10
            go_wp2
            go_roundw
            case rel => exact ⟨j + 1, by omega, by go_num, HPN.out⟩
            case measure => simp [intOf]; omega
          · exfalso; exact hj0 (hof hyo)
    · obtain rfl : j = nn := by omega
      have hyo : y.off = false := by
        cases hyo : y.off
        · rfl
        · have := hof hyo; omega
      rw [hyo] at hoff
      obtain ⟨rfl, rfl, rfl⟩ := hoff
      have hdec : decide ((j : Int) < (j : Int)) = false := by simp
      have NX : Next w base y (putD y.abs a kind mark b j) wr := ⟨yj, hd, ha, hD, hkp, hft⟩
      have HNX := Lib.hid NX
      clear NX hd ha hD hkp hft hrv hyo
      go_wp2
      go_ret2
      exact ⟨rfl, HNX.out⟩
end Go.Proofs.YtendnkklbeiegaaGreatDoor
