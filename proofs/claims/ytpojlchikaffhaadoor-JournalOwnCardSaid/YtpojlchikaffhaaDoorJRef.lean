/-
  The document's log, as it lies in memory: a value of five cells, its row of records.
-/
import Derived.Test.YtpojlchikaffhaaDoorJWalk
import Derived.Test.YtpojlchikaffhaaDoorJMem
import Derived.Test.YtpojlchikaffhaaDoorStr
import Derived.Deep.RegionHeld
namespace Go.Proofs.YtpojlchikaffhaaDoor
open Go.RowKit DiskP PageP JourP

/-- The document's log: where its records lie, and its numbers. -/
structure XL where
  A : Option Addr
  cap : Nat
  rs : List RecR
  lasts : Nat
  half : Int
  size : Int
  epoch : Int
def XL.val (x : XL) : Value := .agg #[.slice x.A x.rs.length x.cap, .int .i64 (x.lasts : Int), .int .i64 x.half, .int .i64 x.size, .int .i64 x.epoch]
/-- Its records can be read, apart from the blocks F. -/
structure XOK (w : World) (F : Nat → Prop) (x : XL) : Prop where
  rd : RVF w F x.A (rC x.rs)
  cap : x.rs.length ≤ x.cap
  c63 : x.cap ≤ 9223372036854775807
  ks : ∀ r ∈ x.rs, RecOK w F r
theorem XOK.next {w w' : World} {F G : Nat → Prop} {x : XL} (h : XOK w F x) (hk : Kept F w w') (hG : ∀ k, k < w.heap.size → G k → F k) : XOK w' G x := ⟨h.rd.next hk hG, h.cap, h.c63, fun r hr => (h.ks r hr).next hk hG⟩
theorem XOK.below {w w' : World} {F : Nat → Prop} {x : XL} (h : XOK w F x) (b : Below w.heap.size w w') : XOK w' F x := h.next (Kept.of_below b F) fun _ _ => id
theorem XOK.mono {w : World} {F G : Nat → Prop} {x : XL} (h : XOK w F x) (hG : ∀ k, k < w.heap.size → G k → F k) : XOK w G x := ⟨h.rd.mono hG, h.cap, h.c63, fun r hr => (h.ks r hr).mono hG⟩
/-- The document's log says of itself what p says. -/
structure XSays (x : XL) (size : Nat) (p : PJ) (dlt : Int) : Prop where
  rs : x.rs.map RecR.abs = p.rs
  lasts : x.lasts = p.lasts
  half : x.half = (p.half : Int)
  size : x.size = (size : Int)
  epoch : x.epoch = (p.e : Int) + dlt
/-- Both logs: the program's, and the document's, whose records lie apart from it; both apart from the blocks X. -/
structure BothJ (w : World) (base : Nat) (X : Nat → Prop) (j : JL) (x : XL) (p : PJ) (dlt : Int) : Prop where
  L : JLog w base j p
  ok : XOK w (fun k => j.foot k ∨ X k) x
  says : XSays x j.y.size p dlt
  ap : ∀ z ∈ j.rs, RecOK w X z
  lt : ∀ k, X k → k < w.heap.size
  no : ∀ k, X k → ¬ j.foot k
section
variable {w w' : World} {base : Nat} {X Y : Nat → Prop} {j : JL} {x x' : XL} {p p' : PJ} {dlt : Int}
theorem BothJ.below (h : BothJ w base X j x p dlt) (b : Below w.heap.size w w') : BothJ w' base X j x p dlt := ⟨h.L.below b, h.ok.below b, h.says, fun z hz => (h.ap z hz).below b, fun k hk => Nat.lt_of_lt_of_le (h.lt k hk) b.size, h.no⟩
/-- With more blocks that are new. -/
theorem BothJ.more (h : BothJ w base X j x p dlt) (b : Below w.heap.size w w') (hY : ∀ k, Y k → X k ∨ (w.heap.size ≤ k ∧ k < w'.heap.size)) : BothJ w' base Y j x p dlt := by
  refine ⟨h.L.below b, (h.ok.mono (G := fun k => j.foot k ∨ Y k) fun k hk hf => ?_).below b, h.says, fun z hz => ((h.ap z hz).mono (G := Y) fun k hk hf => ?_).below b, fun k hk => ?_, fun k hk hf => ?_⟩
  · rcases hf with hf | hf
    · exact .inl hf
    · rcases hY k hf with hf | hf
      · exact .inr hf
      · omega
  · rcases hY k hf with hf | hf
    · exact hf
    · omega
  · rcases hY k hk with hk | hk
    · exact Nat.lt_of_lt_of_le (h.lt k hk) b.size
    · exact hk.2
  · rcases hY k hk with hk | hk
    · exact h.no k hk hf
    · have := (h.L.ok.foot_lt hf).2; omega
/-- With fewer. -/
theorem BothJ.less (h : BothJ w base X j x p dlt) (hY : ∀ k, Y k → X k) : BothJ w base Y j x p dlt := ⟨h.L, h.ok.mono fun k _ hk => hk.imp id (hY k), h.says, fun z hz => (h.ap z hz).mono fun k _ hk => hY k hk, fun k hk => h.lt k (hY k hk), fun k hk => h.no k (hY k hk)⟩
/-- Behind stores into those blocks. -/
theorem BothJ.store (h : BothJ w base X j x p dlt) (K : Kept X w w') : BothJ w' base X j x p dlt := by
  have hn : ∀ k, j.foot k → ¬ X k := fun k hf hx => h.no k hx hf
  refine ⟨{ h.L with ok := ⟨(K.block _ h.L.ok.gk.lt (hn _ (.inl rfl))).trans h.L.ok.gk, h.L.ok.dk.kept K (fun k hk => hn k (.inr (.inr hk))), ⟨⟨own_frame h.L.ok.kp.row.own (fun k hk => K.block k (h.L.ok.kp.row.own.lt k hk).2 (hn k (.inr (.inl hk)))), fun z hz => ?_⟩, h.L.ok.kp.gv, h.L.ok.kp.vy⟩, h.L.ok.bG, h.L.ok.gy⟩ }, ?_, h.says, fun z hz => (h.ap z hz).next K fun _ _ hk => hk, fun k hk => Nat.lt_of_lt_of_le (h.lt k hk) K.size, h.no⟩
  · exact ((h.ap z hz).cross (h.L.ok.kp.row.ks z hz)).next (K.mono fun k _ hk => .inl hk) fun k _ hk => .inr hk
  · exact h.ok.next (K.mono fun k _ hk => .inr hk) fun _ _ hk => hk
/-- Behind a call on the program's log, where the document's says the new. -/
theorem BothJ.step (h : BothJ w base X j x p dlt) (hx : XSays x' j.y.size p' dlt) (ho : XOK w (fun k => j.foot k ∨ X k) x') (n : NextJ w base j p' w') : ∃ j', BothJ w' base X j' x' p' dlt ∧ j'.G = j.G ∧ j'.y.D = j.y.D ∧ (j'.y.size = j.y.size ∧ j'.y.lp.length = j.y.lp.length) ∧ Kept j.foot w w' ∧ ∀ k, j'.foot k → j.foot k ∨ w.heap.size ≤ k := by
  obtain ⟨j', h1, h2, h3, h4, h5, h6, h7⟩ := n
  refine ⟨j', ⟨h1, ho.next (h5.mono fun k _ hk => .inl hk) (fun k hk hf => ?_), by rw [h4.1]; exact hx, h7 X h.lt h.ap, fun k hk => Nat.lt_of_lt_of_le (h.lt k hk) h5.size, fun k hk hf => ?_⟩, h2, h3, h4, h5, h6⟩
  · rcases hf with hf | hf
    · exact .inl ((h6 k hf).resolve_right (by omega))
    · exact .inr hf
  · rcases h6 k hf with hf | hf
    · exact h.no k hk hf
    · have := h.lt k hk; omega
end
end Go.Proofs.YtpojlchikaffhaaDoor
namespace Go.Proofs.YtpojlchikaffhaaDoor
open Go.RowKit DiskP PageP JourP

theorem xrec_elem {w : World} {A : Option Addr} {rs : List RecR} (h : RV w A (rC rs)) {k : Nat} {x : RecR} (hk : rs[k]? = some x) : ∃ b off, A = some ⟨b, off, none⟩ ∧ b < w.heap.size ∧ w.cell? ⟨b, off + k * 2, none⟩ = some (.int .u8 (x.kind.toNat : Int)) ∧ w.cell? ⟨b, off + k * 2 + 1, none⟩ = some (.slice x.A x.body.length x.cap) := rec_elem h hk
theorem sum_take_succ {size : Nat} {ls : List RecR} {k : Nat} {x : RecR} (h : ls[k]? = some x) : sumNd size ((ls.map RecR.abs).take (k + 1)) = sumNd size ((ls.map RecR.abs).take k) + x.abs.nd size := by
  have hr : (ls.map RecR.abs)[k]? = some x.abs := by rw [List.getElem?_map, h]; rfl
  obtain ⟨hlt, hg⟩ := List.getElem?_eq_some_iff.1 hr
  rw [List.take_succ_eq_append_getElem hlt, sumNd_append, hg, sumNd_one]
theorem nd_le2 {size len : Nat} (h1 : 19 ≤ size) (h2 : size ≤ 4096) (h3 : len ≤ 1073741824) (h4 : 1 ≤ len) : JourP.nd size len ≤ len := by
  obtain ⟨n1, n2⟩ := nd_eq h1 h2 h3
  obtain ⟨nn, e1, e2, e3, e4⟩ := need_nat size len (by omega)
  have : nn = JourP.nd size len := by omega
  rw [← this]
  rcases Nat.lt_or_ge 1 nn with h | h
  · have h5 := e3 (nn - 1) (by omega) (by omega)
    have h6 : (nn - 1) * 1 ≤ (nn - 1) * (size - 18) := Nat.mul_le_mul_left _ (by omega)
    omega
  · omega
theorem xneed_calls (size : Nat) (ls : List RecR) (n : Nat) (hn : ls.length = n) (A : Option Addr) (cap : Nat) (w : World) (hR : RV w A (rC ls)) (h1 : 19 ≤ size) (h2 : size ≤ 4096) (hs : ∀ x ∈ ls, x.body.length ≤ 4000) (hl : n ≤ 1000000) :
    Calls Tryd.prog 32 #[.int .i64 (size : Int), .slice A n cap] w fun e w' => e = .returned (.int .i64 (sumNd size (ls.map RecR.abs) : Int)) ∧ w = w' := by
  subst hn
  go_enter Tryd.func32, Tryd.ntmps32
  go_wp2
  go_loop [5, 6] (fun n i => ∃ k sn : Nat, k ≤ ls.length ∧ i = .int .i64 (k : Int) ∧ sn = sumNd size ((ls.map RecR.abs).take k) ∧ sn ≤ k * 4001 ∧ n = .int .i64 (sn : Int)) (fun _ i => ls.length - (intOf i).toNat)
  case atStart => exact ⟨0, 0, by omega, rfl, rfl, by omega, rfl⟩
  case round =>
    obtain ⟨k, sn, hk, rfl, hsn, hsb, rfl⟩ := hrel
    by_cases hlt : k < ls.length
    · have dec : decide ((k : Int) < (ls.length : Int)) = true := decide_eq_true (by omega)
      have dec' : decide (k < ls.length) = true := decide_eq_true hlt
      obtain ⟨x, hxk⟩ : ∃ x, ls[k]? = some x := ⟨_, List.getElem?_eq_getElem hlt⟩
      have hxs := hs x (List.mem_of_getElem? hxk)
      obtain ⟨g, off, rfl, hgl, x0, x1⟩ := xrec_elem hR hxk
      have hbl : x.abs.bytes.length = 1 + x.body.length := x.abs.bytes_len
      obtain ⟨n1, n2⟩ := nd_eq (size := size) (len := x.abs.bytes.length) h1 h2 (by omega)
      have hnl : x.abs.nd size ≤ x.abs.bytes.length := nd_le2 h1 h2 (by omega) (by omega)
      have hnx : x.abs.nd size ≤ 4001 := by omega
      have NC := fun w => rneed_calls (size : Int) (1 + (x.body.length : Int)) w
      have e1 : need (size : Int) (1 + (x.body.length : Int)) = ((x.abs.nd size : Nat) : Int) := by
        have : (1 : Int) + (x.body.length : Int) = ((x.abs.bytes.length : Nat) : Int) := by omega
        rw [this]
        exact n1
      rw [e1] at NC
      have HS : Hid (sn + x.abs.nd size = sumNd size ((ls.map RecR.abs).take (k + 1))) := by
        show _ = _
        rw [sum_take_succ hxk, hsn]
      clear n1 n2 hnl hbl e1 hxk hsn
      generalize x.abs.nd size = nx at *
      go_wp2_with fail
      refine (NC _).mono ?_
      clear NC
      rintro _ w1 ⟨rfl, rfl⟩
      go_wp2
      go_round
      case rel => exact ⟨k + 1, sn + nx, by omega, by go_num, HS.out, by omega, by go_num⟩
      case measure => simp [intOf]; omega
    · obtain rfl : k = ls.length := by omega
      have dec : decide ((ls.length : Int) < (ls.length : Int)) = false := decide_eq_false (by omega)
      have HS : Hid (sumNd size (ls.map RecR.abs) = sn) := by
        show _ = _
        rw [hsn, ← List.length_map (f := RecR.abs), List.take_length]
      clear hsn
      go_wp2
      go_ret
      exact ⟨by rw [HS.out]; rfl, rfl⟩
end Go.Proofs.YtpojlchikaffhaaDoor
namespace Go.Proofs.YtpojlchikaffhaaDoor
open Go.RowKit DiskP PageP JourP

theorem xroom_calls (x : XL) (h sz : Nat) (hh : x.half = (h : Int)) (hs : x.size = (sz : Int)) (h1 : 19 ≤ sz) (h2 : sz ≤ 4096) (h3 : h ≤ 1000000) (w : World) :
    Calls Tryd.prog 40 #[x.val] w fun e w' => e = .returned (.int .i64 ((h : Int) - 1)) ∧ Below w.heap.size w w' := by
  obtain ⟨xA, xc, xr, xl, xh, xs, xe⟩ := x
  simp only at hh hs
  subst hh hs
  have B1 : ∀ q, Below w.heap.size w ((w.alloc (.cells #[.slice xA xr.length xc, .int .i64 (xl : Int), .int .i64 (h : Int), .int .i64 (sz : Int), .int .i64 xe] 31)).drewN q) := fun q => by
    have b := (Below.refl w.heap.size w).alloc (Nat.le_refl _) (.cells #[.slice xA xr.length xc, .int .i64 (xl : Int), .int .i64 (h : Int), .int .i64 (sz : Int), .int .i64 xe] 31)
    exact ⟨b.os, b.tape, b.output, b.size, b.block⟩
  have NC : ∀ w : World, Calls Tryd.prog 46 #[.int .i64 (sz : Int), .int .i64 0] w fun e w' => e = .returned (.int .i64 1) ∧ w' = w := fun w => (rneed_calls (sz : Int) 0 w).mono fun _ _ ⟨a, b⟩ => ⟨by rw [a, need_zero h1 h2], b.symm⟩
  have s1 : IntKind.i64.wrap ((h : Int) - 1) = (h : Int) - 1 := by rw [IntKind.wrap_i64]; omega
  clear h1 h2
  show Calls Tryd.prog 40 #[.agg #[.slice xA xr.length xc, .int .i64 (xl : Int), .int .i64 (h : Int), .int .i64 (sz : Int), .int .i64 xe]] w _
  go_enter Tryd.func40, Tryd.ntmps40
  go_wp2_with fail
  go_quiet ((go_at_call 46; (with_reducible refine Calls.quiet_of_same (NC _))))
  clear NC
  go_wp2
  go_ret
  exact ⟨rfl, B1 _⟩
theorem xleft_calls (x : XL) (h sz : Nat) (hh : x.half = (h : Int)) (hs : x.size = (sz : Int)) (h1 : 19 ≤ sz) (h2 : sz ≤ 4096) (h3 : h ≤ 1000000) (w : World) (hR : RV w x.A (rC x.rs)) (hb : ∀ r ∈ x.rs, r.body.length ≤ 4000) (hl : x.rs.length ≤ 1000000) (hsum : sumNd sz (x.rs.map RecR.abs) ≤ 8000000000) :
    Calls Tryd.prog 21 #[x.val] w fun e w' => e = .returned (.int .i64 ((h : Int) - 1 - (sumNd sz (x.rs.map RecR.abs) : Int))) ∧ Below w.heap.size w w' := by
  have RC := fun w => xroom_calls x h sz hh hs h1 h2 h3 w
  obtain ⟨xA, xc, xr, xl, xh, xs, xe⟩ := x
  simp only at hh hs hR hb hl hsum
  subst hh hs
  have NC := fun w hR => xneed_calls sz xr xr.length rfl xA xc w hR h1 h2 hb hl
  simp only
  generalize sumNd sz (xr.map RecR.abs) = sn at *
  have hbk := Blk.new w 31 #[.slice xA xr.length xc, .int .i64 (xl : Int), .int .i64 (h : Int), .int .i64 (sz : Int), .int .i64 xe]
  have B1 : Below w.heap.size w (w.alloc (.cells #[.slice xA xr.length xc, .int .i64 (xl : Int), .int .i64 (h : Int), .int .i64 (sz : Int), .int .i64 xe] 31)) := (Below.refl w.heap.size w).alloc (Nat.le_refl _) _
  have hR1 := hR.below B1
  clear h1 h2 hb
  show Calls Tryd.prog 21 #[.agg #[.slice xA xr.length xc, .int .i64 (xl : Int), .int .i64 (h : Int), .int .i64 (sz : Int), .int .i64 xe]] w _
  go_enter Tryd.func21, Tryd.ntmps21
  go_wp2_with fail
  generalize w.alloc (.cells #[.slice xA xr.length xc, .int .i64 (xl : Int), .int .i64 (h : Int), .int .i64 (sz : Int), .int .i64 xe] 31) = w1 at *
  have gb := fun r => (hbk.below (grow_below w1 r) hbk.lt)
  have g0 : ∀ r, (grow w1 r).cell? ⟨w.heap.size, 0, none⟩ = some (.slice xA xr.length xc) := fun r => (gb r).at_ rfl
  have g1 : ∀ r, (grow w1 r).cell? ⟨w.heap.size, 1, none⟩ = some (.int .i64 (xl : Int)) := fun r => (gb r).at_ rfl
  have g2 : ∀ r, (grow w1 r).cell? ⟨w.heap.size, 2, none⟩ = some (.int .i64 (h : Int)) := fun r => (gb r).at_ rfl
  have g3 : ∀ r, (grow w1 r).cell? ⟨w.heap.size, 3, none⟩ = some (.int .i64 (sz : Int)) := fun r => (gb r).at_ rfl
  have g4 : ∀ r, (grow w1 r).cell? ⟨w.heap.size, 4, none⟩ = some (.int .i64 xe) := fun r => (gb r).at_ rfl
  have s1 : IntKind.i64.wrap ((h : Int) - 1 - (sn : Int)) = (h : Int) - 1 - (sn : Int) := by rw [IntKind.wrap_i64]; omega
  clear gb hbk
  refine wp_region_grow (by kernel_rfl) (by kernel_rfl) ?_
  repeat (first | go_big_quiet_step (fail) | go_big_quiet_step (exact calls_grow (RC _)) | go_big_quiet_step (exact calls_grow_same (NC _ (hR1.below (grow_below _ _)))))
  refine wpQuiet_nil ?_
  rintro w' ⟨r, rfl⟩
  have b2 := grow_below w1 r
  clear RC NC g0 g1 g2 g3 g4 hR1
  go_wp2
  go_ret
  exact ⟨rfl, B1.trans (b2.mono B1.size)⟩
theorem bstr_eqT (l : List UInt8) : ((bstr l).toList == (bstr l).toList) = true := beq_self_eq_true _
set_option maxHeartbeats 800000 in
theorem xsame_calls (k : UInt8) (l : List UInt8) (A B : Option Addr) (n ca cb : Nat) (hn : l.length = n) (w : World) (hA : RB w A l) (hB : RB w B l) :
    Calls Tryd.prog 43 #[.agg #[.int .u8 (k.toNat : Int), .slice A n ca], .agg #[.int .u8 (k.toNat : Int), .slice B n cb]] w fun e w' => e = .returned (.bool true) ∧ Below w.heap.size w w' := by
  subst hn
  have B1 : Below w.heap.size w ((w.alloc (.cells #[.int .u8 (k.toNat : Int), .slice A l.length ca] 38)).alloc (.cells #[.int .u8 (k.toNat : Int), .slice B l.length cb] 38)) := ((Below.refl _ _).alloc (Nat.le_refl _) _).alloc (by simp) _
  have cv := run_str _ _ _ _ Tryd.underlying24 Tryd.underlying5 Tryd.underlying9 A l l.length ca (hA.below B1) rfl
  have cw := run_str _ _ _ _ Tryd.underlying24 Tryd.underlying5 Tryd.underlying9 B l l.length cb (hB.below B1) rfl
  have q := bstr_eqT l
  have xb := (Blk.new w 38 #[.int .u8 (k.toNat : Int), .slice A l.length ca]).alloc (.cells #[.int .u8 (k.toNat : Int), .slice B l.length cb] 38)
  have c0 := xb.at_ (i := 0) rfl
  have c1 := xb.at_ (i := 1) rfl
  clear xb hA hB
  go_enter Tryd.func43, Tryd.ntmps43
  go_wp2
  go_ret
  exact ⟨rfl, B1⟩
end Go.Proofs.YtpojlchikaffhaaDoor
namespace Go.Proofs.YtpojlchikaffhaaDoor
open Go.RowKit DiskP PageP JourP

set_option maxHeartbeats 1600000 in
theorem xbegins_calls (ls ms : List RecR) (n m : Nat) (hn : ls.length = n) (hm : ms.length = m) (A B : Option Addr) (ca cb : Nat) (least : Int) (w : World) (hA : RV w A (rC ls)) (hB : RV w B (rC ms)) (hAk : ∀ x ∈ ls, RecOK w (fun _ => False) x) (hBk : ∀ x ∈ ms, RecOK w (fun _ => False) x)
    (hle : n ≤ m) (hl : least ≤ n) (hmb : m ≤ 1000000) (he : ls.map RecR.abs = (ms.map RecR.abs).take n) :
    Calls Tryd.prog 25 #[.slice A n ca, .slice B m cb, .int .i64 least] w fun e w' => e = .returned (.bool true) ∧ Below w.heap.size w w' := by
  have d1 : decide ((m : Int) < (n : Int)) = false := decide_eq_false (by omega)
  have d1' : decide (m < n) = false := decide_eq_false (by omega)
  have d2 : decide ((n : Int) < least) = false := decide_eq_false (by omega)
  have Hn := Lib.hid hn
  have Hm := Lib.hid hm
  have He := Lib.hid he
  clear hn hm he
  go_enter Tryd.func25, Tryd.ntmps25
  go_wp2
  clear d1 d1' d2
  go_loopw [7] (fun i wr => ∃ k : Nat, k ≤ n ∧ i = .int .i64 (k : Int) ∧ Below w.heap.size w wr) (fun i _ => n - (intOf i).toNat)
  case atStart => exact ⟨0, by omega, rfl, Below.refl _ _⟩
  case round =>
    obtain ⟨k, hk, rfl, bel⟩ := hrel
    by_cases hlt : k < n
    · have dec : decide ((k : Int) < (n : Int)) = true := decide_eq_true (by omega)
      have dec' : decide (k < n) = true := decide_eq_true hlt
      have decm : decide (k < m) = true := decide_eq_true (by omega)
      obtain ⟨x, hxk⟩ : ∃ x, ls[k]? = some x := ⟨_, List.getElem?_eq_getElem (by rw [Hn.out]; exact hlt)⟩
      obtain ⟨y, hyk⟩ : ∃ y, ms[k]? = some y := ⟨_, List.getElem?_eq_getElem (by rw [Hm.out]; omega)⟩
      have hab : x.abs = y.abs := by
        have h1 : (ls.map RecR.abs)[k]? = some x.abs := by rw [List.getElem?_map, hxk]; rfl
        have h2 : ((ms.map RecR.abs).take n)[k]? = some y.abs := by rw [List.getElem?_take_of_lt hlt, List.getElem?_map, hyk]; rfl
        rw [He.out, h2] at h1
        exact (Option.some.inj h1).symm
      have xok := (hAk x (List.mem_of_getElem? hxk)).below bel
      have yok := (hBk y (List.mem_of_getElem? hyk)).below bel
      obtain ⟨g, off, rfl, hg, x0, x1⟩ := rec_elem (hA.below bel) hxk
      obtain ⟨g', off', rfl, hg', y0, y1⟩ := rec_elem (hB.below bel) hyk
      obtain ⟨xk, xA, xc, xb⟩ := x
      obtain ⟨yk, yA, yc, yb⟩ := y
      unfold RecR.abs at hab
      simp only at hab
      injection hab with h1 h2
      subst h1 h2
      have xr := xok.rd.rv
      have yr := yok.rd.rv
      simp only at x0 x1 y0 y1 xr yr
      have SC := fun r => xsame_calls xk xb xA yA xb.length xc yc rfl (grow wr r) (RB.below (l := xb) xr (grow_below _ _)) (RB.below (l := xb) yr (grow_below _ _))
      have gx0 : ∀ r, (grow wr r).cell? ⟨g, off + k * 2, none⟩ = some (.int .u8 (xk.toNat : Int)) := fun r => (grow_cell wr r _ _ hg).trans x0
      have gx1 : ∀ r, (grow wr r).cell? ⟨g, off + k * 2 + 1, none⟩ = some (.slice xA xb.length xc) := fun r => (grow_cell wr r _ _ hg).trans x1
      have gy0 : ∀ r, (grow wr r).cell? ⟨g', off' + k * 2, none⟩ = some (.int .u8 (xk.toNat : Int)) := fun r => (grow_cell wr r _ _ hg').trans y0
      have gy1 : ∀ r, (grow wr r).cell? ⟨g', off' + k * 2 + 1, none⟩ = some (.slice yA xb.length yc) := fun r => (grow_cell wr r _ _ hg').trans y1
      clear xok yok hxk hyk x0 x1 y0 y1 xr yr hA hB hAk hBk
      go_wp2_with fail
      refine wp_region_grow (by kernel_rfl) (by kernel_rfl) ?_
      repeat (first | go_big_quiet_step (fail) | go_big_quiet_step (exact calls_grow (SC _)))
      refine wpQuiet_nil ?_
      rintro w' ⟨r, rfl⟩
      have HB := Lib.hid (bel.trans ((grow_below wr r).mono bel.size))
      clear SC gx0 gx1 gy0 gy1
      go_wp2
      go_roundw
      case rel => exact ⟨k + 1, by omega, by go_num, HB.out⟩
      case measure => simp [intOf]; omega
    · obtain rfl : k = n := by omega
      have dec : decide ((k : Int) < (k : Int)) = false := decide_eq_false (by omega)
      have dec' : decide (k < k) = false := decide_eq_false (by omega)
      go_wp2
      go_ret
      exact ⟨rfl, bel⟩
theorem xsync_calls (x : XL) (w : World) :
    Calls Tryd.prog 41 #[x.val] w fun e w' => e = .returned ({ x with lasts := x.rs.length } : XL).val ∧ Below w.heap.size w w' := by
  obtain ⟨xA, xc, xr, xl, xh, xs, xe⟩ := x
  show Calls Tryd.prog 41 #[.agg #[.slice xA xr.length xc, .int .i64 (xl : Int), .int .i64 xh, .int .i64 xs, .int .i64 xe]] w fun e w' => e = .returned (.agg #[.slice xA xr.length xc, .int .i64 (xr.length : Int), .int .i64 xh, .int .i64 xs, .int .i64 xe]) ∧ Below w.heap.size w w'
  go_enter Tryd.func41, Tryd.ntmps41
  go_wp2
  exact bodyPost_ret (v := .agg #[.slice xA xr.length xc, .int .i64 (xr.length : Int), .int .i64 xh, .int .i64 xs, .int .i64 xe]) (by simp [results, Tryd.results41, go_sem]) rfl ⟨rfl, ((Below.refl _ _).alloc (Nat.le_refl _) _).alloc (by simp) _⟩
/-- May a log lie there? -/
def goodP (all size from_ sectors : Int) : Prop := 19 ≤ size ∧ 0 ≤ from_ ∧ 4 ≤ sectors ∧ sectors ≤ all ∧ from_ ≤ all - sectors
def XL.fresh (half size : Int) : XL := ⟨none, 0, [], 0, half, size, 1⟩
set_option maxHeartbeats 1600000 in
theorem xopen_good (all sz from_ sectors : Int) (w : World) (h : goodP all sz from_ sectors) (h1 : sz ≤ 4096) (h2 : all ≤ 65536) :
    Calls Tryd.prog 18 #[.int .i64 all, .int .i64 sz, .int .i64 from_, .int .i64 sectors] w fun e w' => e = .returned (.tuple #[(XL.fresh (sectors / 2) sz).val, .int .i64 0]) ∧ Below w.heap.size w w' := by
  obtain ⟨q1, q2, q3, q4, q5⟩ := h
  obtain ⟨hf, hh⟩ : ∃ hf : Nat, (hf : Int) = sectors / 2 := ⟨(sectors / 2).toNat, by omega⟩
  obtain ⟨sn, hsn⟩ := Int.eq_ofNat_of_zero_le (show 0 ≤ sz by omega)
  have RC : ∀ w, Calls Tryd.prog 40 #[.agg #[.slice none 0 0, .int .i64 0, .int .i64 (sectors / 2), .int .i64 sz, .int .i64 1]] w fun e w' => e = .returned (.int .i64 ((hf : Int) - 1)) ∧ Below w.heap.size w w' := fun w => xroom_calls (XL.fresh (sectors / 2) sz) hf sn hh.symm hsn (by omega) (by omega) (by omega) w
  have d1 : decide (sz < 19) = false := decide_eq_false (by omega)
  have d2 : decide (from_ < 0) = false := decide_eq_false (by omega)
  have d3 : decide (sectors < 4) = false := decide_eq_false (by omega)
  have d4 : decide ((hf : Int) - 1 < 1) = false := decide_eq_false (by omega)
  have d5 : decide (all < from_) = false := decide_eq_false (by omega)
  have d6 : decide (all - from_ < sectors) = false := decide_eq_false (by omega)
  have B1 : Below w.heap.size w ((w.alloc (.cells #[.slice none 0 0, .int .i64 0, .int .i64 0, .int .i64 0, .int .i64 0] 31)).alloc (.cells #[.slice none 0 0, .int .i64 0, .int .i64 (sectors / 2), .int .i64 sz, .int .i64 1] 31)) := ((Below.refl _ _).alloc (Nat.le_refl _) _).alloc (by simp) _
  clear hh hsn
  show Calls Tryd.prog 18 #[.int .i64 all, .int .i64 sz, .int .i64 from_, .int .i64 sectors] w fun e w' => e = .returned (.tuple #[.agg #[.slice none 0 0, .int .i64 0, .int .i64 (sectors / 2), .int .i64 sz, .int .i64 1], .int .i64 0]) ∧ Below w.heap.size w w'
  go_enter Tryd.func18, Tryd.ntmps18
  have cb := Blk.new (w.alloc (.cells #[.slice none 0 0, .int .i64 0, .int .i64 0, .int .i64 0, .int .i64 0] 31)) 31 #[.slice none 0 0, .int .i64 0, .int .i64 (sectors / 2), .int .i64 sz, .int .i64 1]
  have rb := (Blk.new w 31 #[.slice none 0 0, .int .i64 0, .int .i64 0, .int .i64 0, .int .i64 0]).alloc (.cells #[.slice none 0 0, .int .i64 0, .int .i64 (sectors / 2), .int .i64 sz, .int .i64 1] 31)
  rw [show (w.alloc (.cells #[.slice none 0 0, .int .i64 0, .int .i64 0, .int .i64 0, .int .i64 0] 31)).heap.size = w.heap.size + 1 by simp] at cb
  go_wp2_with fail
  refine (RC _).mono ?_
  clear RC
  rintro _ w2 ⟨rfl, b2⟩
  have B2 := B1.trans (b2.mono B1.size)
  have cb2 := cb.below b2 cb.lt
  have rb2 := rb.below b2 rb.lt
  have c0 : w2.cell? ⟨w.heap.size + 1, 0, none⟩ = some (.slice none 0 0) := cb2.at_ rfl
  have c1 : w2.cell? ⟨w.heap.size + 1, 1, none⟩ = some (.int .i64 0) := cb2.at_ rfl
  have c2 : w2.cell? ⟨w.heap.size + 1, 2, none⟩ = some (.int .i64 (sectors / 2)) := cb2.at_ rfl
  have c3 : w2.cell? ⟨w.heap.size + 1, 3, none⟩ = some (.int .i64 sz) := cb2.at_ rfl
  have c4 : w2.cell? ⟨w.heap.size + 1, 4, none⟩ = some (.int .i64 1) := cb2.at_ rfl
  have r0 : w2.cell? ⟨w.heap.size, 0, none⟩ = some (.slice none 0 0) := rb2.at_ rfl
  have r1 : w2.cell? ⟨w.heap.size, 1, none⟩ = some (.int .i64 0) := rb2.at_ rfl
  have r2 : w2.cell? ⟨w.heap.size, 2, none⟩ = some (.int .i64 0) := rb2.at_ rfl
  have r3 : w2.cell? ⟨w.heap.size, 3, none⟩ = some (.int .i64 0) := rb2.at_ rfl
  have r4 : w2.cell? ⟨w.heap.size, 4, none⟩ = some (.int .i64 0) := rb2.at_ rfl
  have f0 := rb2.frozen 0
  have f1 := rb2.frozen 1
  have f2 := rb2.frozen 2
  have f3 := rb2.frozen 3
  have f4 := rb2.frozen 4
  have BF : ∀ (v0 v1 v2 v3 v4 : Value), Below w.heap.size w (((((w2.setCell ⟨w.heap.size, 0, none⟩ v0).setCell ⟨w.heap.size, 1, none⟩ v1).setCell ⟨w.heap.size, 2, none⟩ v2).setCell ⟨w.heap.size, 3, none⟩ v3).setCell ⟨w.heap.size, 4, none⟩ v4) := fun v0 v1 v2 v3 v4 => ((((B2.setCell (by simp) _).setCell (by simp) _).setCell (by simp) _).setCell (by simp) _).setCell (by simp) _
  clear cb rb cb2 rb2 b2 B1 B2
  go_wp2_with fail
  exact bodyPost_ret (v := .tuple #[.agg #[.slice none 0 0, .int .i64 0, .int .i64 (sectors / 2), .int .i64 sz, .int .i64 1], .int .i64 0]) (by simp [results, Tryd.results18, go_sem, *]) rfl ⟨rfl, BF _ _ _ _ _⟩
set_option maxHeartbeats 3200000 in
theorem xopen_bad (all sz from_ sectors : Int) (w : World) (h : ¬ goodP all sz from_ sectors) (h0 : 16 ≤ sz) (h1 : sz ≤ 4096) (h2 : all ≤ 65536) (h3 : 0 ≤ all) (h4 : sectors ≤ 1000) :
    Calls Tryd.prog 18 #[.int .i64 all, .int .i64 sz, .int .i64 from_, .int .i64 sectors] w fun e w' => e = .returned (.tuple #[.agg #[.slice none 0 0, .int .i64 0, .int .i64 0, .int .i64 0, .int .i64 0], .int .i64 1]) ∧ Below w.heap.size w w' := by
  have B0 : ∀ o o', Below w.heap.size w ((w.alloc o).alloc o') := fun o o' => ((Below.refl _ _).alloc (Nat.le_refl _) _).alloc (by simp) _
  by_cases q1 : sz < 19
  · have d1 : decide (sz < 19) = true := decide_eq_true q1
    clear h
    go_enter Tryd.func18, Tryd.ntmps18
    go_wp2
    exact bodyPost_ret (v := .tuple #[.agg #[.slice none 0 0, .int .i64 0, .int .i64 0, .int .i64 0, .int .i64 0], .int .i64 1]) (by simp [results, Tryd.results18, go_sem, *]) rfl ⟨rfl, B0 _ _⟩
  have d1 : decide (sz < 19) = false := decide_eq_false q1
  by_cases q2 : from_ < 0
  · have d2 : decide (from_ < 0) = true := decide_eq_true q2
    clear h
    go_enter Tryd.func18, Tryd.ntmps18
    go_wp2
    exact bodyPost_ret (v := .tuple #[.agg #[.slice none 0 0, .int .i64 0, .int .i64 0, .int .i64 0, .int .i64 0], .int .i64 1]) (by simp [results, Tryd.results18, go_sem, *]) rfl ⟨rfl, B0 _ _⟩
  have d2 : decide (from_ < 0) = false := decide_eq_false q2
  by_cases q3 : sectors < 4
  · have d3 : decide (sectors < 4) = true := decide_eq_true q3
    clear h
    go_enter Tryd.func18, Tryd.ntmps18
    go_wp2
    exact bodyPost_ret (v := .tuple #[.agg #[.slice none 0 0, .int .i64 0, .int .i64 0, .int .i64 0, .int .i64 0], .int .i64 1]) (by simp [results, Tryd.results18, go_sem, *]) rfl ⟨rfl, B0 _ _⟩
  have d3 : decide (sectors < 4) = false := decide_eq_false q3
  obtain ⟨hf, hh⟩ : ∃ hf : Nat, (hf : Int) = sectors / 2 := ⟨(sectors / 2).toNat, by omega⟩
  obtain ⟨sn, hsn⟩ := Int.eq_ofNat_of_zero_le (show 0 ≤ sz by omega)
  have RC : ∀ w, Calls Tryd.prog 40 #[.agg #[.slice none 0 0, .int .i64 0, .int .i64 (sectors / 2), .int .i64 sz, .int .i64 1]] w fun e w' => e = .returned (.int .i64 ((hf : Int) - 1)) ∧ Below w.heap.size w w' := fun w => xroom_calls (XL.fresh (sectors / 2) sz) hf sn hh.symm hsn (by omega) (by omega) (by omega) w
  have d4 : decide ((hf : Int) - 1 < 1) = false := decide_eq_false (by omega)
  have B1 := B0 (.cells #[.slice none 0 0, .int .i64 0, .int .i64 0, .int .i64 0, .int .i64 0] 31) (.cells #[.slice none 0 0, .int .i64 0, .int .i64 (sectors / 2), .int .i64 sz, .int .i64 1] 31)
  have rb := (Blk.new w 31 #[.slice none 0 0, .int .i64 0, .int .i64 0, .int .i64 0, .int .i64 0]).alloc (.cells #[.slice none 0 0, .int .i64 0, .int .i64 (sectors / 2), .int .i64 sz, .int .i64 1] 31)
  have HD : Hid (all < from_ ∨ (from_ ≤ all ∧ all - from_ < sectors)) := by
    show _ ∨ _
    unfold goodP at h
    omega
  clear hh hsn h
  go_enter Tryd.func18, Tryd.ntmps18
  go_wp2_with fail
  refine (RC _).mono ?_
  clear RC
  rintro _ w2 ⟨rfl, b2⟩
  have B2 := B1.trans (b2.mono B1.size)
  have rb2 := rb.below b2 rb.lt
  have r0 : w2.cell? ⟨w.heap.size, 0, none⟩ = some (.slice none 0 0) := rb2.at_ rfl
  have r1 : w2.cell? ⟨w.heap.size, 1, none⟩ = some (.int .i64 0) := rb2.at_ rfl
  have r2 : w2.cell? ⟨w.heap.size, 2, none⟩ = some (.int .i64 0) := rb2.at_ rfl
  have r3 : w2.cell? ⟨w.heap.size, 3, none⟩ = some (.int .i64 0) := rb2.at_ rfl
  have r4 : w2.cell? ⟨w.heap.size, 4, none⟩ = some (.int .i64 0) := rb2.at_ rfl
  have f0 := rb2.frozen 0
  have f1 := rb2.frozen 1
  have f2 := rb2.frozen 2
  have f3 := rb2.frozen 3
  have f4 := rb2.frozen 4
  have BF : ∀ (v0 v1 v2 v3 v4 : Value), Below w.heap.size w (((((w2.setCell ⟨w.heap.size, 0, none⟩ v0).setCell ⟨w.heap.size, 1, none⟩ v1).setCell ⟨w.heap.size, 2, none⟩ v2).setCell ⟨w.heap.size, 3, none⟩ v3).setCell ⟨w.heap.size, 4, none⟩ v4) := fun v0 v1 v2 v3 v4 => ((((B2.setCell (by simp) _).setCell (by simp) _).setCell (by simp) _).setCell (by simp) _).setCell (by simp) _
  clear rb rb2 b2 B1 B2
  rcases HD.out with hd | ⟨hd1, hd2⟩
  · have d5 : decide (all < from_) = true := decide_eq_true hd
    clear HD hd
    go_wp2_with fail
    exact bodyPost_ret (v := .tuple #[.agg #[.slice none 0 0, .int .i64 0, .int .i64 0, .int .i64 0, .int .i64 0], .int .i64 1]) (by simp [results, Tryd.results18, go_sem, *]) rfl ⟨rfl, BF _ _ _ _ _⟩
  · have d5 : decide (all < from_) = false := decide_eq_false (by omega)
    have d6 : decide (all - from_ < sectors) = true := decide_eq_true hd2
    clear HD hd2
    go_wp2_with fail
    exact bodyPost_ret (v := .tuple #[.agg #[.slice none 0 0, .int .i64 0, .int .i64 0, .int .i64 0, .int .i64 0], .int .i64 1]) (by simp [results, Tryd.results18, go_sem, *]) rfl ⟨rfl, BF _ _ _ _ _⟩
end Go.Proofs.YtpojlchikaffhaaDoor
namespace Go.Proofs.YtpojlchikaffhaaDoor
open Go.RowKit DiskP PageP JourP

theorem info_xrec : (Tryd.prog.info? 38).map (fun i => (i.zero, i.size, i.bytes)) = some (some (.agg #[.int .u8 0, .slice none 0 0]), 2, 32) := by kernel_rfl
theorem el_xrec : El Tryd.prog 29 38 (.agg #[.int .u8 0, .slice none 0 0]) 2 32 := ⟨info_parts info_xrec, Tryd.underlying29, rfl, by decide⟩
theorem rv_grown {w w6 : World} {g k : Nat} {vs : List Value} {row : Option Nat} (h : RV w (some ⟨g, 0, none⟩) vs) (gr : w.grownBy w6 row) (hr : row = some k) (hk : g ≠ k) : RV w6 (some ⟨g, 0, none⟩) vs := fun hne => by
  obtain ⟨b, off, e, hb, hc⟩ := h hne
  injection e with e
  injection e with e1 e2
  subst e1 e2
  have := gr.block g hb (fun e => hk (Option.some.inj (e.trans hr)))
  exact ⟨g, 0, rfl, Nat.lt_of_lt_of_le hb gr.size, fun j v hj => (World.cell?_of_block (w := w) this).trans (hc j v hj)⟩
theorem rv_at (w : World) (vs : List Value) (t : TypeId) (a : Nat) (ha : w.heap.size = a) : RV (w.alloc (.cells vs.toArray t)) (some ⟨a, 0, none⟩) vs := by
  subst ha
  exact RV.new w vs t (0, 0)
theorem own_emptyA (w : World) {base : Nat} (e : TypeId) (size a : Nat) (ha : w.heap.size = a) (hb : base ≤ a) : (w.alloc (.cells #[] e)).ownsRow base e size (.slice (some ⟨a, 0, none⟩) 0 0) 0 [] := by
  subst ha
  exact own_empty w e size hb
theorem XOK.push {w w7 w10 : World} {F G : Nat → Prop} {x : XL} {rs : List RecR} {N c n : Nat} {A : Option Addr} {T : TypeId} (hr : ∀ r ∈ rs, RecOK w F r) (hF : ∀ k, F k → k < w.heap.size) (b7 : Below w.heap.size w w7)
    (own7 : w7.ownsRow N T 2 (.slice A n c) n (rC rs)) (hn : rs.length = n) (hN : w.heap.size ≤ N) (K : Kept G w7 w10) (hG : ∀ k, G k → w.heap.size ≤ k) (hGn : ∀ k, (Value.slice A n c).ownBlock = some k → ¬ G k) : XOK w10 F { x with A := A, cap := c, rs := rs } := by
  obtain ⟨_, _, e, h1, h2⟩ := own_form own7
  injection e with e1 _ e2
  subst e1 e2
  unfold maxLen at h2
  have hrv : RVF w7 (fun k => F k ∨ G k) A (rC rs) := by
    intro hne
    obtain ⟨b, off, e, hb, _, hc⟩ := own_rvfN (F := fun k => F k) own7 (fun k hk => .inl (by have := hF k hk; omega)) hne
    refine ⟨b, off, e, hb, fun hf => ?_, hc⟩
    rcases own7.2 with ⟨hv, h0⟩ | ⟨g, cap, cur, hv, hgN, _⟩
    · injection hv with hv _ _
      rw [hv] at e
      cases e
    · injection hv with hv _ _
      rw [hv] at e
      injection e with e
      injection e with e _
      subst e
      rcases hf with hf | hf
      · have := hF g hf; omega
      · exact hGn g (by rw [hv]; rfl) hf
  refine ⟨(hrv.kept (K.mono fun k _ hk => .inr hk)).mono fun k _ hk => .inl hk, by show rs.length ≤ c; omega, by show c ≤ _; omega, fun r hr' => ?_⟩
  have h3 : RecOK w7 (fun k => F k ∨ G k) r := ((hr r hr').mono (G := fun k => F k ∨ G k) (fun k hk hf => by
    rcases hf with hf | hf
    · exact hf
    · have := hG k hf; omega)).below b7
  exact (h3.kept (K.mono fun k _ hk => .inr hk) fun _ hk => hk).mono fun k _ hk => .inl hk
/-- What the document's Add gives back. -/
def RetXA (w : World) (F : Nat → Prop) (_x : XL) (sz : Nat) (_p : PJ) (dlt E : Int) (p' : PJ) (e : Ending) (w' : World) : Prop :=
  ∃ x', e = .returned (.tuple #[x'.val, .int .i64 E]) ∧ XSays x' sz p' dlt ∧ XOK w' F x' ∧ Below w.heap.size w w'
set_option maxHeartbeats 1600000 in
theorem xadd_long (x : XL) (r : RecR) (sz : Nat) (p : PJ) (dlt : Int) (w : World) (F : Nat → Prop) (hX : XOK w F x) (hp : XSays x sz p dlt) (hl : 4000 < r.body.length) :
    Calls Tryd.prog 12 #[x.val, .agg #[.int .u8 (r.kind.toNat : Int), .slice r.A r.body.length r.cap]] w (RetXA w F x sz p dlt 1 p) := by
  obtain ⟨xA, xc, xr, xl, xh, xs, xe⟩ := x
  have d1 : decide (4000 < (r.body.length : Int)) = true := decide_eq_true (by omega)
  have HE : Hid (∀ w', Below w.heap.size w w' → RetXA w F ⟨xA, xc, xr, xl, xh, xs, xe⟩ sz p dlt 1 p (.returned (.tuple #[.agg #[.slice xA xr.length xc, .int .i64 (xl : Int), .int .i64 xh, .int .i64 xs, .int .i64 xe], .int .i64 1])) w') := fun w' b => ⟨_, rfl, hp, hX.below b, b⟩
  have B3 : ∀ o o' o'', Below w.heap.size w (((w.alloc o).alloc o').alloc o'') := fun o o' o'' => (((Below.refl _ _).alloc (Nat.le_refl _) _).alloc (by simp) _).alloc (by simp; omega) _
  clear hX hp hl
  show Calls Tryd.prog 12 #[.agg #[.slice xA xr.length xc, .int .i64 (xl : Int), .int .i64 xh, .int .i64 xs, .int .i64 xe], .agg #[.int .u8 (r.kind.toNat : Int), .slice r.A r.body.length r.cap]] w _
  go_enter Tryd.func12, Tryd.ntmps12
  go_wp2
  exact bodyPost_ret (v := .tuple #[.agg #[.slice xA xr.length xc, .int .i64 (xl : Int), .int .i64 xh, .int .i64 xs, .int .i64 xe], .int .i64 1]) (by simp [results, Tryd.results12, go_sem]) rfl (HE.out _ (B3 _ _ _))
end Go.Proofs.YtpojlchikaffhaaDoor
namespace Go.Proofs.YtpojlchikaffhaaDoor
open Go.RowKit DiskP PageP JourP

set_option maxHeartbeats 3200000 in
set_option maxRecDepth 100000 in
theorem xadd_short (x : XL) (r : RecR) (sz : Nat) (p : PJ) (dlt : Int) (w : World) (F : Nat → Prop) (hX : XOK w F x) (hF : ∀ k, F k → k < w.heap.size) (hr : RecOK w F r) (hp : XSays x sz p dlt) (hl : r.body.length ≤ 4000) (h1 : 19 ≤ sz) (h2 : sz ≤ 4096) (h3 : p.half ≤ 1000000) (hb : ∀ z ∈ p.rs, z.body.length ≤ 4000) (hn : p.rs.length ≤ 65536) (hsum : sumNd sz p.rs ≤ 1000000) :
    Calls Tryd.prog 12 #[x.val, .agg #[.int .u8 (r.kind.toNat : Int), .slice r.A r.body.length r.cap]] w (RetXA w F x sz p dlt (addE sz p r.abs) (p.addS sz r.abs)) := by
  have hlen : x.rs.length = p.rs.length := by rw [← hp.rs, List.length_map]
  have LC := fun w' (hR : RV w' x.A (rC x.rs)) => xleft_calls x p.half sz hp.half hp.size h1 h2 h3 w' hR (fun z hz => by have := hb z.abs (by rw [← hp.rs]; exact List.mem_map_of_mem hz); exact this) (by omega) (by rw [hp.rs]; omega)
  simp only [hp.rs] at LC
  have NC : ∀ (w' : World) (A : Option Addr), RV w' A (rC [r]) → Calls Tryd.prog 32 #[.int .i64 (sz : Int), .slice A 1 1] w' fun e w'' => e = .returned (.int .i64 ((r.abs.nd sz : Nat) : Int)) ∧ w' = w'' := fun w' A hR => (xneed_calls sz [r] 1 rfl A 1 w' hR h1 h2 (fun z hz => by simp at hz; subst hz; exact hl) (by omega)).mono fun _ _ ⟨a, b⟩ => ⟨by rw [a, List.map_singleton, sumNd_one], b⟩
  have hHE : Hid (p.half < 1 + sumNd sz p.rs + r.abs.nd sz → addE sz p r.abs = 5 ∧ p.addS sz r.abs = p) := by
    intro h
    have hbl : ¬ 4000 < r.abs.body.length := by show ¬ 4000 < r.body.length; omega
    have e : addE sz p r.abs = 5 := by unfold addE; rw [if_neg hbl, if_pos h]
    exact ⟨e, by unfold PJ.addS; rw [e]; rfl⟩
  have hHO : Hid (¬ p.half < 1 + sumNd sz p.rs + r.abs.nd sz → addE sz p r.abs = 0 ∧ p.addS sz r.abs = p.add r.abs) := by
    intro h
    have hbl : ¬ 4000 < r.abs.body.length := by show ¬ 4000 < r.body.length; omega
    have e : addE sz p r.abs = 0 := by unfold addE; rw [if_neg hbl, if_neg h]
    exact ⟨e, by unfold PJ.addS; rw [if_pos e]⟩
  have d1 : decide (4000 < (r.body.length : Int)) = false := decide_eq_false (by omega)
  have HX := Lib.hid hX
  have HPP := Lib.hid hp
  obtain ⟨xA, xc, xr, xl, xh, xs, xe⟩ := x
  obtain ⟨rk, rA, rc, rb⟩ := r
  have hrd := hX.rd.rv
  simp only at hlen hrd hl d1
  have q1 := hp.half
  have q2 := hp.size
  simp only at q1 q2
  subst q1 q2
  have h0 := Blk.new w 31 #[.slice xA xr.length xc, .int .i64 (xl : Int), .int .i64 (p.half : Int), .int .i64 (sz : Int), .int .i64 xe]
  have h0' := (h0.alloc (.cells #[.int .u8 (rk.toNat : Int), .slice rA rb.length rc] 38)).alloc (.cells #[.slice none 0 0, .int .i64 0, .int .i64 0, .int .i64 0, .int .i64 0] 31)
  have hr0 := (Blk.new (w.alloc (.cells #[.slice xA xr.length xc, .int .i64 (xl : Int), .int .i64 (p.half : Int), .int .i64 (sz : Int), .int .i64 xe] 31)) 38 #[.int .u8 (rk.toNat : Int), .slice rA rb.length rc]).alloc (.cells #[.slice none 0 0, .int .i64 0, .int .i64 0, .int .i64 0, .int .i64 0] 31)
  have hz0 := Blk.new ((w.alloc (.cells #[.slice xA xr.length xc, .int .i64 (xl : Int), .int .i64 (p.half : Int), .int .i64 (sz : Int), .int .i64 xe] 31)).alloc (.cells #[.int .u8 (rk.toNat : Int), .slice rA rb.length rc] 38)) 31 #[.slice none 0 0, .int .i64 0, .int .i64 0, .int .i64 0, .int .i64 0]
  have B1 : Below w.heap.size w (((w.alloc (.cells #[.slice xA xr.length xc, .int .i64 (xl : Int), .int .i64 (p.half : Int), .int .i64 (sz : Int), .int .i64 xe] 31)).alloc (.cells #[.int .u8 (rk.toNat : Int), .slice rA rb.length rc] 38)).alloc (.cells #[.slice none 0 0, .int .i64 0, .int .i64 0, .int .i64 0, .int .i64 0] 31)) := (((Below.refl _ _).alloc (Nat.le_refl _) _).alloc (by simp) _).alloc (by simp; omega) _
  simp only [World.size_alloc] at hr0 hz0
  show Calls Tryd.prog 12 #[.agg #[.slice xA xr.length xc, .int .i64 (xl : Int), .int .i64 (p.half : Int), .int .i64 (sz : Int), .int .i64 xe], .agg #[.int .u8 (rk.toNat : Int), .slice rA rb.length rc]] w _
  clear h0
  have Hlen := Lib.hid hlen
  clear hX hp hlen
  go_enter Tryd.func12, Tryd.ntmps12
  go_wp2_with fail
  generalize ((w.alloc (.cells #[.slice xA xr.length xc, .int .i64 (xl : Int), .int .i64 (p.half : Int), .int .i64 (sz : Int), .int .i64 xe] 31)).alloc (.cells #[.int .u8 (rk.toNat : Int), .slice rA rb.length rc] 38)).alloc (.cells #[.slice none 0 0, .int .i64 0, .int .i64 0, .int .i64 0, .int .i64 0] 31) = w1 at *
  have LC' : ∀ w', RV w' xA (rC xr) → Calls Tryd.prog 21 #[.agg #[.slice xA xr.length xc, .int .i64 (xl : Int), .int .i64 (p.half : Int), .int .i64 (sz : Int), .int .i64 xe]] w' fun e w'' => e = .returned (.int .i64 ((p.half : Int) - 1 - (sumNd sz p.rs : Int))) ∧ Below w'.heap.size w' w'' := LC
  clear LC
  obtain ⟨Lf, hLf⟩ : ∃ Lf : Int, (p.half : Int) - 1 - (sumNd sz p.rs : Int) = Lf := ⟨_, rfl⟩
  obtain ⟨nd, hnd⟩ : ∃ nd : Nat, (RecR.abs ⟨rk, rA, rc, rb⟩).nd sz = nd := ⟨_, rfl⟩
  rw [hLf] at LC'
  rw [hnd] at NC
  have HLf := Lib.hid hLf
  have Hnd := Lib.hid hnd
  clear hLf hnd
  have hR1 := hrd.below B1
  have hRd : RV w1.drew xA (rC xr) := hR1
  have HS : Hid (∀ wq, Below w1.heap.size w1 wq → (wq.cell? ⟨w.heap.size, 0, none⟩ = some (.slice xA xr.length xc) ∧ wq.cell? ⟨w.heap.size, 1, none⟩ = some (.int .i64 (xl : Int)) ∧ wq.cell? ⟨w.heap.size, 2, none⟩ = some (.int .i64 (p.half : Int)) ∧ wq.cell? ⟨w.heap.size, 3, none⟩ = some (.int .i64 (sz : Int)) ∧ wq.cell? ⟨w.heap.size, 4, none⟩ = some (.int .i64 xe) ∧ wq.cell? ⟨w.heap.size + 1, 0, none⟩ = some (.int .u8 (rk.toNat : Int)) ∧ wq.cell? ⟨w.heap.size + 1, 1, none⟩ = some (.slice rA rb.length rc))) := by
    intro wq b
    have a1 := h0'.below b h0'.lt
    have a2 := hr0.below b hr0.lt
    exact ⟨a1.at_ rfl, a1.at_ rfl, a1.at_ rfl, a1.at_ rfl, a1.at_ rfl, a2.at_ rfl, a2.at_ rfl⟩
  have bd : Below w1.heap.size w1 w1.drew := (Below.refl _ _).drew
  have ba : ∀ o, Below w1.heap.size w1 ((w1.alloc o).drew) := fun o => ((Below.refl _ _).alloc (Nat.le_refl _) o).drew
  have f1 := HS.out _ bd
  have fa := fun o => HS.out _ (ba o)
  have rva : RV ((w1.alloc (.cells #[.int .u8 (rk.toNat : Int), .slice rA rb.length rc] 38)).drew) (some ⟨w1.heap.size, 0, none⟩) (rC [⟨rk, rA, rc, rb⟩]) := RV.new w1 (rC [⟨rk, rA, rc, rb⟩]) 38 (0, 0)
  have hRa : ∀ o, RV ((w1.alloc o).drew) xA (rC xr) := fun o => hR1.below (ba o)
  go_region_held (fun wq => wq.cell? ⟨w.heap.size, 0, none⟩ = some (.slice xA xr.length xc) ∧ wq.cell? ⟨w.heap.size, 1, none⟩ = some (.int .i64 (xl : Int)) ∧ wq.cell? ⟨w.heap.size, 2, none⟩ = some (.int .i64 (p.half : Int)) ∧ wq.cell? ⟨w.heap.size, 3, none⟩ = some (.int .i64 (sz : Int)) ∧ wq.cell? ⟨w.heap.size, 4, none⟩ = some (.int .i64 xe) ∧ wq.cell? ⟨w.heap.size + 1, 0, none⟩ = some (.int .u8 (rk.toNat : Int)) ∧ wq.cell? ⟨w.heap.size + 1, 1, none⟩ = some (.slice rA rb.length rc)) (first | exact f1 | exact fa _ | exact f9) (first
    | (go_at_call 21; refine (LC' _ (hRa _)).mono ?_; rintro _ w9 ⟨rfl, b9z⟩; have b9 : Below w1.heap.size w1 w9 := (ba _).trans (b9z.mono (ba _).size); clear b9z; have f9 := HS.out _ b9)
    | (go_at_call 32; refine (NC _ _ rva).mono ?_; rintro _ w8 ⟨rfl, rfl⟩))
  clear f1 fa rva hRa LC' NC bd ba hRd hR1
  have hb9 := h0'.below b9 h0'.lt
  have hr9 := hr0.below b9 hr0.lt
  have hz9 := hz0.below b9 hz0.lt
  have B9 := B1.trans (b9.mono B1.size)
  clear h0' hr0 hz0 HS b9
  obtain ⟨c0, c1, c2, c3, c4, r0, r1⟩ := f9
  have z0 : w9.cell? ⟨w.heap.size + 1 + 1, 0, none⟩ = some (.slice none 0 0) := hz9.at_ rfl
  have z1 : w9.cell? ⟨w.heap.size + 1 + 1, 1, none⟩ = some (.int .i64 0) := hz9.at_ rfl
  have z2 : w9.cell? ⟨w.heap.size + 1 + 1, 2, none⟩ = some (.int .i64 0) := hz9.at_ rfl
  have z3 : w9.cell? ⟨w.heap.size + 1 + 1, 3, none⟩ = some (.int .i64 0) := hz9.at_ rfl
  have z4 : w9.cell? ⟨w.heap.size + 1 + 1, 4, none⟩ = some (.int .i64 0) := hz9.at_ rfl
  by_cases hroom : p.half < 1 + sumNd sz p.rs + (RecR.abs ⟨rk, rA, rc, rb⟩).nd sz
  · have d2 : decide (Lf < (nd : Int)) = true := decide_eq_true (by have := HLf.out; have := Hnd.out; omega)
    obtain ⟨e1, e2⟩ := hHE.out hroom
    rw [d2]
    have y0 := hz9.frozen 0
    have y1 := hz9.frozen 1
    have y2 := hz9.frozen 2
    have y3 := hz9.frozen 3
    have y4 := hz9.frozen 4
    have HE : Hid (∀ w', Below w.heap.size w w' → RetXA w F ⟨xA, xc, xr, xl, (p.half : Int), (sz : Int), xe⟩ sz p dlt (addE sz p (RecR.abs ⟨rk, rA, rc, rb⟩)) (p.addS sz (RecR.abs ⟨rk, rA, rc, rb⟩)) (.returned (.tuple #[.agg #[.slice xA xr.length xc, .int .i64 (xl : Int), .int .i64 (p.half : Int), .int .i64 (sz : Int), .int .i64 xe], .int .i64 5])) w') := fun w' b => by
      rw [e1, e2]
      exact ⟨_, rfl, HPP.out, HX.out.below b, b⟩
    have BF : ∀ (v0 v1 v2 v3 v4 : Value), Below w.heap.size w (((((w9.setCell ⟨w.heap.size + 1 + 1, 0, none⟩ v0).setCell ⟨w.heap.size + 1 + 1, 1, none⟩ v1).setCell ⟨w.heap.size + 1 + 1, 2, none⟩ v2).setCell ⟨w.heap.size + 1 + 1, 3, none⟩ v3).setCell ⟨w.heap.size + 1 + 1, 4, none⟩ v4) := fun v0 v1 v2 v3 v4 => ((((B9.setCell (by simp; omega) _).setCell (by simp; omega) _).setCell (by simp; omega) _).setCell (by simp; omega) _).setCell (by simp; omega) _
    have HEB := Lib.hid (fun v0 v1 v2 v3 v4 => HE.out _ (BF v0 v1 v2 v3 v4))
    clear hHE hHO e1 e2 hroom hb9 hr9 hz9 B9 BF HE HX HPP hr hb hrd B1
    go_wp2_with fail
    exact bodyPost_ret (v := .tuple #[.agg #[.slice xA xr.length xc, .int .i64 (xl : Int), .int .i64 (p.half : Int), .int .i64 (sz : Int), .int .i64 xe], .int .i64 5]) (by simp [results, Tryd.results12, go_sem, *]) rfl (HEB.out _ _ _ _ _)
  · have d2 : decide (Lf < (nd : Int)) = false := decide_eq_false (by have := HLf.out; have := Hnd.out; omega)
    obtain ⟨e1, e2⟩ := hHO.out hroom
    have hlx := Hlen.out
    have HP : Hid (∀ (w7 : World) (A7 : Option Addr) (c7 : Nat), Below w9.heap.size w9 w7 → w7.ownsRow w9.heap.size 38 2 (.slice A7 (xr.length + 1) c7) (xr.length + 1) (rC xr ++ [.int .u8 (rk.toNat : Int), .slice rA rb.length rc]) → ∀ (v0 v1 v2 v3 v4 v5 : Value),
        RetXA w F ⟨xA, xc, xr, xl, (p.half : Int), (sz : Int), xe⟩ sz p dlt (addE sz p (RecR.abs ⟨rk, rA, rc, rb⟩)) (p.addS sz (RecR.abs ⟨rk, rA, rc, rb⟩)) (.returned (.tuple #[.agg #[.slice A7 (xr.length + 1) c7, .int .i64 (xl : Int), .int .i64 (p.half : Int), .int .i64 (sz : Int), .int .i64 xe], .int .i64 0])) ((((((w7.setCell ⟨w.heap.size, 0, none⟩ v0).setCell ⟨w.heap.size + 1 + 1, 0, none⟩ v1).setCell ⟨w.heap.size + 1 + 1, 1, none⟩ v2).setCell ⟨w.heap.size + 1 + 1, 2, none⟩ v3).setCell ⟨w.heap.size + 1 + 1, 3, none⟩ v4).setCell ⟨w.heap.size + 1 + 1, 4, none⟩ v5)) := by
      intro w7 A7 c7 b7 o7 v0 v1 v2 v3 v4 v5
      rw [e1, e2]
      have B7 := B9.trans (b7.mono B9.size)
      have hs9 := B9.size
      have hz9l := hz9.lt
      have hB9l := hb9.lt
      have K : Kept (fun k => k = w.heap.size ∨ k = w.heap.size + 1 + 1) w7 ((((((w7.setCell ⟨w.heap.size, 0, none⟩ v0).setCell ⟨w.heap.size + 1 + 1, 0, none⟩ v1).setCell ⟨w.heap.size + 1 + 1, 1, none⟩ v2).setCell ⟨w.heap.size + 1 + 1, 2, none⟩ v3).setCell ⟨w.heap.size + 1 + 1, 3, none⟩ v4).setCell ⟨w.heap.size + 1 + 1, 4, none⟩ v5) :=
        ((((((Kept.refl (fun k => k = w.heap.size ∨ k = w.heap.size + 1 + 1) w7).setCell (p := ⟨w.heap.size, 0, none⟩) (.inl (.inl rfl)) v0).setCell (p := ⟨w.heap.size + 1 + 1, 0, none⟩) (.inl (.inr rfl)) v1).setCell (p := ⟨w.heap.size + 1 + 1, 1, none⟩) (.inl (.inr rfl)) v2).setCell (p := ⟨w.heap.size + 1 + 1, 2, none⟩) (.inl (.inr rfl)) v3).setCell (p := ⟨w.heap.size + 1 + 1, 3, none⟩) (.inl (.inr rfl)) v4).setCell (p := ⟨w.heap.size + 1 + 1, 4, none⟩) (.inl (.inr rfl)) v5
      have hrs : rC xr ++ [.int .u8 (rk.toNat : Int), .slice rA rb.length rc] = rC (xr ++ [⟨rk, rA, rc, rb⟩]) := by rw [rC_append]; simp [rC, RecR.cells]
      rw [hrs] at o7
      have hx := XOK.push (F := F) (x := ⟨xA, xc, xr, xl, (p.half : Int), (sz : Int), xe⟩) (rs := xr ++ [⟨rk, rA, rc, rb⟩]) (fun z hz => by
        rcases List.mem_append.1 hz with hz | hz
        · exact HX.out.ks z hz
        · simp at hz; subst hz; exact hr) hF B7 o7 (by simp) hs9 K (fun k hk => by rcases hk with rfl | rfl <;> omega) (fun k hk hg => by have := (o7.lt k hk).1; rcases hg with rfl | rfl <;> omega)
      refine ⟨⟨A7, c7, xr ++ [⟨rk, rA, rc, rb⟩], xl, (p.half : Int), (sz : Int), xe⟩, by unfold XL.val; simp, ⟨?_, HPP.out.lasts, rfl, rfl, HPP.out.epoch⟩, hx, B7.trans ((K.below (fun k _ hk => by rcases hk with rfl | rfl <;> omega) B7.size).mono (Nat.le_refl _))⟩
      show (xr ++ [_]).map RecR.abs = p.rs ++ [_]
      rw [List.map_append]
      exact congrArg (· ++ _) HPP.out.rs
    clear hHE hHO e1 e2 hroom hlx
    rw [d2]
    have HV : Hid (RV w9 xA (rC xr)) := (hrd.below B9)
    have HW : Hid (∀ {w8 : World}, Below w9.heap.size w9 w8 → w8.cell? ⟨w.heap.size + 1, 0, none⟩ = some (.int .u8 (rk.toNat : Int)) ∧ w8.cell? ⟨w.heap.size + 1, 1, none⟩ = some (.slice rA rb.length rc)) := by
      intro w8 b8
      have := hr9.below b8 hr9.lt
      exact ⟨this.at_ rfl, this.at_ rfl⟩
    have HB : Hid (Blk w9 w.heap.size 31 #[.slice xA xr.length xc, .int .i64 (xl : Int), .int .i64 (p.half : Int), .int .i64 (sz : Int), .int .i64 xe]) := hb9
    have HZ : Hid (Blk w9 (w.heap.size + 1 + 1) 31 #[.slice none 0 0, .int .i64 0, .int .i64 0, .int .i64 0, .int .i64 0]) := hz9
    have hbl := hb9.lt
    have hrl := hr9.lt
    have hzl := hz9.lt
    have hxl : xr.length ≤ 65536 := by have := Hlen.out; omega
    have c0a : ∀ o, (w9.alloc o).cell? ⟨w.heap.size, 0, none⟩ = some (.slice xA xr.length xc) := fun o => (hb9.alloc o).at_ rfl
    have r0a : ∀ o, (w9.alloc o).cell? ⟨w.heap.size + 1, 0, none⟩ = some (.int .u8 (rk.toNat : Int)) := fun o => (hr9.alloc o).at_ rfl
    have r1a : ∀ o, (w9.alloc o).cell? ⟨w.heap.size + 1, 1, none⟩ = some (.slice rA rb.length rc) := fun o => (hr9.alloc o).at_ rfl
    clear z0 z1 z2 z3 z4 c1 c2 c3 c4 HX HPP hr hb hb9 hr9 hz9 HLf Hnd Hlen d2 hrd B1 h1 h2 h3 hn hsum
    go_wp2_with fail
    go_region_law (first | (refine step_append_rv (A := xA) (m := xr.length) (c := xc) (v := .slice (some ⟨w9.heap.size, 0, none⟩) 0 0) (n := 0) (base := w9.heap.size) (xs := []) el_xrec rfl (.tmp 20) (.tmp 22) rfl rfl (own_empty w9.drew 38 2 (Nat.le_refl _)) rfl (rC_len _) ((HV.out.drew).alloc _) (rC_one _) (by unfold maxLen; omega) (by omega) (by first | omega | (simp; try omega)) ?_; intro v6 w6 own6 gr6 hv6; (have own6' : w6.ownsRow w9.heap.size 38 2 v6 xr.length (rC xr) := by simpa using own6); (obtain ⟨A6, c6, hv6f, _, _⟩ := own_form own6'); subst hv6f; have b6 : Below w9.heap.size w9 w6 := Below.grown (((Below.refl _ w9).drew).alloc (Nat.le_refl _) _) gr6 (by simp; try omega) (fun j hj => by have hj : w9.heap.size = j := Option.some.inj hj; omega); have q0 := (HW.out b6).1; have q1 := (HW.out b6).2; have q0a := fun o => (HW.out (b6.alloc b6.size o)).1; have q1a := fun o => (HW.out (b6.alloc b6.size o)).2; clear own6 gr6 hv6) | (refine step_append_rv (A := xA) (m := xr.length) (c := xc) (v := .slice (some ⟨w9.heap.size + 1, 0, none⟩) 0 0) (n := 0) (base := w9.heap.size) (xs := []) el_xrec rfl (.tmp 20) (.tmp 22) rfl rfl (own_emptyA (w9.drew.alloc _) 38 2 (w9.heap.size + 1) (by simp) (by omega)) rfl (rC_len _) (((HV.out.drew).alloc _).alloc _) (rC_one _) (by unfold maxLen; omega) (by omega) (by first | omega | (simp; try omega)) ?_; intro v6 w6 own6 gr6 hv6; (have own6' : w6.ownsRow w9.heap.size 38 2 v6 xr.length (rC xr) := by simpa using own6); (obtain ⟨A6, c6, hv6f, _, _⟩ := own_form own6'); subst hv6f; have b6 : Below w9.heap.size w9 w6 := Below.grown ((((Below.refl _ w9).drew).alloc (Nat.le_refl _) _).alloc (by simp) _) gr6 (by simp; try omega) (fun j hj => by have hj : w9.heap.size + 1 = j := Option.some.inj hj; omega); have q0 := (HW.out b6).1; have q1 := (HW.out b6).2; have q0a := fun o => (HW.out (b6.alloc b6.size o)).1; have q1a := fun o => (HW.out (b6.alloc b6.size o)).2; have rx : RV w6 (some ⟨w9.heap.size, 0, none⟩) [.int .u8 (rk.toNat : Int), .slice rA rb.length rc] := rv_grown ((RV.new w9.drew [.int .u8 (rk.toNat : Int), .slice rA rb.length rc] 38 (0, 0)).alloc _) gr6 (k := w9.heap.size + 1) rfl (by omega); clear own6 gr6 hv6) | (refine step_append_rv (m := 1) (c := 1) (v := .slice A6 xr.length c6) (n := xr.length) (base := w9.heap.size) (xs := rC xr) el_xrec rfl (.tmp 23) (.tmp 25) rfl rfl own6' rfl rfl rx (rC_one [⟨rk, rA, rc, rb⟩]) (by unfold maxLen; omega) (by omega) (by have := b6.size; first | omega | (simp; omega)) ?_; intro v7 w7 own7 gr7 hv7; (obtain ⟨A7, c7, hv7f, _, _⟩ := own_form own7); subst hv7f; have b7 : Below w9.heap.size w9 w7 := Below.grown b6 gr7 (by have := b6.size; first | omega | (simp; omega)) (fun j hj => (own6'.lt j hj).1); have HF := Lib.hid (HP.out w7 A7 c7 b7 own7); have g7 := HB.out.below b7 hbl; have k7 := HZ.out.below b7 hzl; have m0 := g7.at_ (i := 0) rfl; have m1 := g7.at_ (i := 1) rfl; have m2 := g7.at_ (i := 2) rfl; have m3 := g7.at_ (i := 3) rfl; have m4 := g7.at_ (i := 4) rfl; have fm := g7.frozen 0; have n0 := k7.at_ (i := 0) rfl; have n1 := k7.at_ (i := 1) rfl; have n2 := k7.at_ (i := 2) rfl; have n3 := k7.at_ (i := 3) rfl; have n4 := k7.at_ (i := 4) rfl; have y0 := k7.frozen 0; have y1 := k7.frozen 1; have y2 := k7.frozen 2; have y3 := k7.frozen 3; have y4 := k7.frozen 4; clear g7 k7; clear own7 gr7 hv7) | (refine step_append_rv (A := some ⟨w6.heap.size, 0, none⟩) (m := 1) (c := 1) (v := .slice A6 xr.length c6) (n := xr.length) (base := w9.heap.size) (xs := rC xr) el_xrec rfl (.tmp 23) (.tmp 25) rfl rfl (own6'.alloc _) rfl rfl (RV.new w6 [.int .u8 (rk.toNat : Int), .slice rA rb.length rc] 38 (0, 0)) (rC_one [⟨rk, rA, rc, rb⟩]) (by unfold maxLen; omega) (by omega) (by have := b6.size; first | omega | (simp; omega)) ?_; intro v7 w7 own7 gr7 hv7; (obtain ⟨A7, c7, hv7f, _, _⟩ := own_form own7); subst hv7f; have b7 : Below w9.heap.size w9 w7 := Below.grown (b6.alloc b6.size _) gr7 (by have := b6.size; first | omega | (simp; omega)) (fun j hj => (own6'.lt j hj).1); have HF := Lib.hid (HP.out w7 A7 c7 b7 own7); have g7 := HB.out.below b7 hbl; have k7 := HZ.out.below b7 hzl; have m0 := g7.at_ (i := 0) rfl; have m1 := g7.at_ (i := 1) rfl; have m2 := g7.at_ (i := 2) rfl; have m3 := g7.at_ (i := 3) rfl; have m4 := g7.at_ (i := 4) rfl; have fm := g7.frozen 0; have n0 := k7.at_ (i := 0) rfl; have n1 := k7.at_ (i := 1) rfl; have n2 := k7.at_ (i := 2) rfl; have n3 := k7.at_ (i := 3) rfl; have n4 := k7.at_ (i := 4) rfl; have y0 := k7.frozen 0; have y1 := k7.frozen 1; have y2 := k7.frozen 2; have y3 := k7.frozen 3; have y4 := k7.frozen 4; clear g7 k7; clear own7 gr7 hv7) | (refine step_append_rv (A := xA) (m := xr.length) (c := xc) (v := .slice (some ⟨w9.heap.size, 0, none⟩) 0 0) (n := 0) (base := w9.heap.size) (xs := []) el_xrec rfl (.tmp 20) (.tmp 22) rfl rfl ((own_empty w9.drew 38 2 (Nat.le_refl _)).alloc _) rfl (rC_len _) (((HV.out.drew).alloc _).alloc _) (rC_one _) (by unfold maxLen; omega) (by omega) (by first | omega | (simp; try omega)) ?_; intro v6 w6 own6 gr6 hv6; (have own6' : w6.ownsRow w9.heap.size 38 2 v6 xr.length (rC xr) := by simpa using own6); (obtain ⟨A6, c6, hv6f, _, _⟩ := own_form own6'); subst hv6f; have b6 : Below w9.heap.size w9 w6 := Below.grown ((((Below.refl _ w9).drew).alloc (Nat.le_refl _) _).alloc (by simp) _) gr6 (by simp; try omega) (fun j hj => by have hj : w9.heap.size = j := Option.some.inj hj; omega); have q0 := (HW.out b6).1; have q1 := (HW.out b6).2; have q0a := fun o => (HW.out (b6.alloc b6.size o)).1; have q1a := fun o => (HW.out (b6.alloc b6.size o)).2; have rx : RV w6 (some ⟨w9.heap.size + 1, 0, none⟩) [.int .u8 (rk.toNat : Int), .slice rA rb.length rc] := rv_grown (rv_at (w9.drew.alloc (.cells #[] 38)) [.int .u8 (rk.toNat : Int), .slice rA rb.length rc] 38 _ (by simp)) gr6 (k := w9.heap.size) rfl (by omega); clear own6 gr6 hv6))
    all_goals
      clear HP HV HW HB HZ
      go_wp2_with fail
      exact bodyPost_ret (v := .tuple #[.agg #[.slice A7 (xr.length + 1) c7, .int .i64 (xl : Int), .int .i64 (p.half : Int), .int .i64 (sz : Int), .int .i64 xe], .int .i64 0]) (by simp [results, Tryd.results12, go_sem, *]) rfl (HF.out _ _ _ _ _ _)
theorem xadd_calls (x : XL) (r : RecR) (sz : Nat) (p : PJ) (dlt : Int) (w : World) (F : Nat → Prop) (hX : XOK w F x) (hF : ∀ k, F k → k < w.heap.size) (hr : RecOK w F r) (hp : XSays x sz p dlt) (h1 : 19 ≤ sz) (h2 : sz ≤ 4096) (h3 : p.half ≤ 1000000) (hb : ∀ z ∈ p.rs, z.body.length ≤ 4000) (hn : p.rs.length ≤ 65536) (hsum : sumNd sz p.rs ≤ 1000000) :
    Calls Tryd.prog 12 #[x.val, .agg #[.int .u8 (r.kind.toNat : Int), .slice r.A r.body.length r.cap]] w (RetXA w F x sz p dlt (addE sz p r.abs) (p.addS sz r.abs)) := by
  by_cases hl : 4000 < r.body.length
  · have e : addE sz p r.abs = 1 := if_pos hl
    have e2 : p.addS sz r.abs = p := by unfold PJ.addS; rw [e]; rfl
    rw [e, e2]
    exact xadd_long x r sz p dlt w F hX hp hl
  · exact xadd_short x r sz p dlt w F hX hF hr hp (by omega) h1 h2 h3 hb hn hsum
end Go.Proofs.YtpojlchikaffhaaDoor
namespace Go.Proofs.YtpojlchikaffhaaDoor
open Go.RowKit DiskP PageP JourP

theorem xlong_no {ks : List RecR} (h : ∀ x ∈ ks, x.body.length ≤ 4000) : longB (ks.map RecR.abs) = false := by
  unfold longB
  rw [List.any_eq_false]
  intro r hr
  obtain ⟨x, hx, rfl⟩ := List.mem_map.1 hr
  have := h x hx
  have e : x.abs.body.length = x.body.length := rfl
  simp
  omega
theorem xlong_yes {ks : List RecR} {x : RecR} (hk : x ∈ ks) (h : 4000 < x.body.length) : longB (ks.map RecR.abs) = true := by
  unfold longB
  rw [List.any_eq_true]
  exact ⟨x.abs, List.mem_map_of_mem hk, decide_eq_true (show 4000 < x.body.length from h)⟩
set_option maxHeartbeats 3200000 in
set_option maxRecDepth 100000 in
theorem xturn_calls (x : XL) (ks : List RecR) (n : Nat) (hkn : ks.length = n) (A : Option Addr) (cap : Nat) (sz : Nat) (p : PJ) (dlt : Int) (w : World) (F : Nat → Prop) (hX : XOK w F x) (hF : ∀ k, F k → k < w.heap.size) (hR : RV w A (rC ks)) (hks : ∀ z ∈ ks, RecOK w F z) (hp : XSays x sz p dlt) (h1 : 19 ≤ sz) (h2 : sz ≤ 4096) (h3 : p.half ≤ 1000000) (hn : n ≤ 65536) (he1 : -1000000000 ≤ x.epoch) (he2 : x.epoch ≤ 1000000000) :
    Calls Tryd.prog 28 #[x.val, .slice A n cap] w (RetXA w F x sz p dlt (turnE sz p (ks.map RecR.abs)) (p.turnS sz (ks.map RecR.abs))) := by
  have RC := fun w' => xroom_calls x p.half sz hp.half hp.size h1 h2 h3 w'
  have HX := Lib.hid hX
  have HPP := Lib.hid hp
  have HE1 : Hid (longB (ks.map RecR.abs) = true → turnE sz p (ks.map RecR.abs) = 1 ∧ p.turnS sz (ks.map RecR.abs) = p) := by
    intro hb
    have e : turnE sz p (ks.map RecR.abs) = 1 := if_pos hb
    exact ⟨e, by unfold PJ.turnS; rw [e]; rfl⟩
  have HE5 : Hid (longB (ks.map RecR.abs) = false → p.half < 1 + sumNd sz (ks.map RecR.abs) → turnE sz p (ks.map RecR.abs) = 5 ∧ p.turnS sz (ks.map RecR.abs) = p) := by
    intro hb h5
    have e : turnE sz p (ks.map RecR.abs) = 5 := by unfold turnE; rw [hb, if_neg (by decide), if_pos h5]
    exact ⟨e, by unfold PJ.turnS; rw [e]; rfl⟩
  have HE0 : Hid (longB (ks.map RecR.abs) = false → ¬ p.half < 1 + sumNd sz (ks.map RecR.abs) → turnE sz p (ks.map RecR.abs) = 0 ∧ p.turnS sz (ks.map RecR.abs) = p.turned (ks.map RecR.abs)) := by
    intro hb h5
    have e : turnE sz p (ks.map RecR.abs) = 0 := by unfold turnE; rw [hb, if_neg (by decide), if_neg h5]
    exact ⟨e, by unfold PJ.turnS; rw [if_pos e]⟩
  obtain ⟨xA, xc, xr, xl, xh, xs, xe⟩ := x
  have q1 := hp.half
  have q2 := hp.size
  simp only at q1 q2 he1 he2
  subst q1 q2
  subst hkn
  have hb0 := (Blk.new w 31 #[.slice xA xr.length xc, .int .i64 (xl : Int), .int .i64 (p.half : Int), .int .i64 (sz : Int), .int .i64 xe]).alloc (.cells #[.slice none 0 0, .int .i64 0, .int .i64 0, .int .i64 0, .int .i64 0] 31)
  have hz0 := Blk.new (w.alloc (.cells #[.slice xA xr.length xc, .int .i64 (xl : Int), .int .i64 (p.half : Int), .int .i64 (sz : Int), .int .i64 xe] 31)) 31 #[.slice none 0 0, .int .i64 0, .int .i64 0, .int .i64 0, .int .i64 0]
  simp only [World.size_alloc] at hz0
  have B1 : Below w.heap.size w ((w.alloc (.cells #[.slice xA xr.length xc, .int .i64 (xl : Int), .int .i64 (p.half : Int), .int .i64 (sz : Int), .int .i64 xe] 31)).alloc (.cells #[.slice none 0 0, .int .i64 0, .int .i64 0, .int .i64 0, .int .i64 0] 31)) := ((Below.refl _ _).alloc (Nat.le_refl _) _).alloc (by simp) _
  have RC' : ∀ w', Calls Tryd.prog 40 #[.agg #[.slice xA xr.length xc, .int .i64 (xl : Int), .int .i64 (p.half : Int), .int .i64 (sz : Int), .int .i64 xe]] w' fun e w'' => e = .returned (.int .i64 ((p.half : Int) - 1)) ∧ Below w'.heap.size w' w'' := RC
  clear RC hX hp
  have hR1 := hR.below B1
  show Calls Tryd.prog 28 #[.agg #[.slice xA xr.length xc, .int .i64 (xl : Int), .int .i64 (p.half : Int), .int .i64 (sz : Int), .int .i64 xe], .slice A ks.length cap] w _
  go_enter Tryd.func28, Tryd.ntmps28
  go_wp2_with fail
  generalize ((w.alloc (.cells #[.slice xA xr.length xc, .int .i64 (xl : Int), .int .i64 (p.half : Int), .int .i64 (sz : Int), .int .i64 xe] 31)).alloc (.cells #[.slice none 0 0, .int .i64 0, .int .i64 0, .int .i64 0, .int .i64 0] 31)) = w1 at *
  have c0 : w1.cell? ⟨w.heap.size, 0, none⟩ = some (.slice xA xr.length xc) := hb0.at_ rfl
  have c1 : w1.cell? ⟨w.heap.size, 1, none⟩ = some (.int .i64 (xl : Int)) := hb0.at_ rfl
  have c2 : w1.cell? ⟨w.heap.size, 2, none⟩ = some (.int .i64 (p.half : Int)) := hb0.at_ rfl
  have c3 : w1.cell? ⟨w.heap.size, 3, none⟩ = some (.int .i64 (sz : Int)) := hb0.at_ rfl
  have c4 : w1.cell? ⟨w.heap.size, 4, none⟩ = some (.int .i64 xe) := hb0.at_ rfl
  have z0 : w1.cell? ⟨w.heap.size + 1, 0, none⟩ = some (.slice none 0 0) := hz0.at_ rfl
  have z1 : w1.cell? ⟨w.heap.size + 1, 1, none⟩ = some (.int .i64 0) := hz0.at_ rfl
  have z2 : w1.cell? ⟨w.heap.size + 1, 2, none⟩ = some (.int .i64 0) := hz0.at_ rfl
  have z3 : w1.cell? ⟨w.heap.size + 1, 3, none⟩ = some (.int .i64 0) := hz0.at_ rfl
  have z4 : w1.cell? ⟨w.heap.size + 1, 4, none⟩ = some (.int .i64 0) := hz0.at_ rfl
  have y0 := hz0.frozen 0
  have y1 := hz0.frozen 1
  have y2 := hz0.frozen 2
  have y3 := hz0.frozen 3
  have y4 := hz0.frozen 4
  have HN : Hid (∀ w9, Below w.heap.size w w9 → ∀ (v0 v1 v2 v3 v4 : Value), Below w.heap.size w (((((w9.setCell ⟨w.heap.size + 1, 0, none⟩ v0).setCell ⟨w.heap.size + 1, 1, none⟩ v1).setCell ⟨w.heap.size + 1, 2, none⟩ v2).setCell ⟨w.heap.size + 1, 3, none⟩ v3).setCell ⟨w.heap.size + 1, 4, none⟩ v4)) :=
    fun w9 B9 v0 v1 v2 v3 v4 => ((((B9.setCell (by simp) _).setCell (by simp) _).setCell (by simp) _).setCell (by simp) _).setCell (by simp) _
  go_loop [6] (fun i => ∃ k : Nat, k ≤ ks.length ∧ i = .int .i64 (k : Int) ∧ ∀ z ∈ ks.take k, z.body.length ≤ 4000) (fun i => ks.length - (intOf i).toNat)
  case atStart => exact ⟨0, by omega, rfl, fun z hz => by simp at hz⟩
  case round =>
    obtain ⟨k, hk, rfl, hsm⟩ := hrel
    by_cases hlt : k < ks.length
    · have dec : decide ((k : Int) < (ks.length : Int)) = true := decide_eq_true (by omega)
      have dec' : decide (k < ks.length) = true := decide_eq_true hlt
      obtain ⟨x, hxk⟩ : ∃ x, ks[k]? = some x := ⟨_, List.getElem?_eq_getElem hlt⟩
      obtain ⟨g, off, rfl, hgl, x0, x1⟩ := xrec_elem hR1 hxk
      by_cases hxl : 4000 < x.body.length
      · have d1 : decide (4000 < (x.body.length : Int)) = true := decide_eq_true (by omega)
        have HE : Hid (∀ w', Below w.heap.size w w' → RetXA w F ⟨xA, xc, xr, xl, (p.half : Int), (sz : Int), xe⟩ sz p dlt (turnE sz p (ks.map RecR.abs)) (p.turnS sz (ks.map RecR.abs)) (.returned (.tuple #[.agg #[.slice xA xr.length xc, .int .i64 (xl : Int), .int .i64 (p.half : Int), .int .i64 (sz : Int), .int .i64 xe], .int .i64 1])) w') := fun w' b => by
          obtain ⟨e1, e2⟩ := HE1.out (xlong_yes (List.mem_of_getElem? hxk) hxl)
          rw [e1, e2]
          exact ⟨_, rfl, HPP.out, HX.out.below b, b⟩
        have HEB := Lib.hid (fun v0 v1 v2 v3 v4 => HE.out _ (HN.out w1 B1 v0 v1 v2 v3 v4))
        clear HE HE1 HE5 HE0 HX HPP hxk hsm hks hR hR1 RC' hb0 hz0
        go_wp2_with fail
        exact bodyPost_ret (v := .tuple #[.agg #[.slice xA xr.length xc, .int .i64 (xl : Int), .int .i64 (p.half : Int), .int .i64 (sz : Int), .int .i64 xe], .int .i64 1]) (by simp [results, Tryd.results28, go_sem, *]) rfl (HEB.out _ _ _ _ _)
      · have d1 : decide (4000 < (x.body.length : Int)) = false := decide_eq_false (by omega)
        have HSM : Hid (∀ z ∈ ks.take (k + 1), z.body.length ≤ 4000) := by
          intro z hz
          obtain ⟨hltm, hgm⟩ := List.getElem?_eq_some_iff.1 hxk
          rw [List.take_succ_eq_append_getElem hltm, hgm] at hz
          rcases List.mem_append.1 hz with hz | hz
          · exact hsm z hz
          · simp at hz; subst hz; omega
        clear HE1 HE5 HE0 HX HPP hxk hsm hks hR hR1 RC' hb0 hz0 HN
        go_wp2
        go_round
        case rel => exact ⟨k + 1, by omega, by go_num, HSM.out⟩
        case measure => simp [intOf]; omega
    · obtain rfl : k = ks.length := by omega
      have dec : decide ((ks.length : Int) < (ks.length : Int)) = false := decide_eq_false (by omega)
      have dec' : decide (ks.length < ks.length) = false := decide_eq_false (by omega)
      rw [List.take_length] at hsm
      have hlo := xlong_no hsm
      have NC := fun w' hR => xneed_calls sz ks ks.length rfl A cap w' hR h1 h2 hsm (by omega)
      obtain ⟨sn, hsn⟩ : ∃ sn : Nat, sumNd sz (ks.map RecR.abs) = sn := ⟨_, rfl⟩
      rw [hsn] at NC
      have gb := fun r => (hb0.below (grow_below w1 r) hb0.lt)
      have g0 : ∀ r, (grow w1 r).cell? ⟨w.heap.size, 0, none⟩ = some (.slice xA xr.length xc) := fun r => (gb r).at_ rfl
      have g1 : ∀ r, (grow w1 r).cell? ⟨w.heap.size, 1, none⟩ = some (.int .i64 (xl : Int)) := fun r => (gb r).at_ rfl
      have g2 : ∀ r, (grow w1 r).cell? ⟨w.heap.size, 2, none⟩ = some (.int .i64 (p.half : Int)) := fun r => (gb r).at_ rfl
      have g3 : ∀ r, (grow w1 r).cell? ⟨w.heap.size, 3, none⟩ = some (.int .i64 (sz : Int)) := fun r => (gb r).at_ rfl
      have g4 : ∀ r, (grow w1 r).cell? ⟨w.heap.size, 4, none⟩ = some (.int .i64 xe) := fun r => (gb r).at_ rfl
      have Hsn := Lib.hid hsn
      have Hlo := Lib.hid hlo
      have Hks := Lib.hid hks
      have Hsm := Lib.hid hsm
      clear hsn hlo gb c0 c1 c2 c3 c4 z0 z1 z2 z3 z4 y0 y1 y2 y3 y4 hks hsm
      go_wp2_with fail
      refine wp_region_grow (by kernel_rfl) (by kernel_rfl) ?_
      repeat (first | go_big_quiet_step (fail) | go_big_quiet_step (exact calls_grow (RC' _)) | go_big_quiet_step (exact calls_grow_same (NC _ (hR1.below (grow_below _ _)))))
      refine wpQuiet_nil ?_
      rintro w' ⟨r, rfl⟩
      have b9 := grow_below w1 r
      generalize grow w1 r = w9 at *
      clear RC' NC g0 g1 g2 g3 g4
      have hb9 := hb0.below b9 hb0.lt
      have hz9 := hz0.below b9 hz0.lt
      have hR9 := hR1.below b9
      have B9 := B1.trans (b9.mono B1.size)
      clear hb0 hz0 b9 hR1
      have c0 : w9.cell? ⟨w.heap.size, 0, none⟩ = some (.slice xA xr.length xc) := hb9.at_ rfl
      have c1 : w9.cell? ⟨w.heap.size, 1, none⟩ = some (.int .i64 (xl : Int)) := hb9.at_ rfl
      have c2 : w9.cell? ⟨w.heap.size, 2, none⟩ = some (.int .i64 (p.half : Int)) := hb9.at_ rfl
      have c3 : w9.cell? ⟨w.heap.size, 3, none⟩ = some (.int .i64 (sz : Int)) := hb9.at_ rfl
      have c4 : w9.cell? ⟨w.heap.size, 4, none⟩ = some (.int .i64 xe) := hb9.at_ rfl
      by_cases hroom : p.half < 1 + sumNd sz (ks.map RecR.abs)
      · have d2 : decide ((p.half : Int) - 1 < (sn : Int)) = true := decide_eq_true (by have := Hsn.out; omega)
        rw [d2]
        have z0 : w9.cell? ⟨w.heap.size + 1, 0, none⟩ = some (.slice none 0 0) := hz9.at_ rfl
        have z1 : w9.cell? ⟨w.heap.size + 1, 1, none⟩ = some (.int .i64 0) := hz9.at_ rfl
        have z2 : w9.cell? ⟨w.heap.size + 1, 2, none⟩ = some (.int .i64 0) := hz9.at_ rfl
        have z3 : w9.cell? ⟨w.heap.size + 1, 3, none⟩ = some (.int .i64 0) := hz9.at_ rfl
        have z4 : w9.cell? ⟨w.heap.size + 1, 4, none⟩ = some (.int .i64 0) := hz9.at_ rfl
        have y0 := hz9.frozen 0
        have y1 := hz9.frozen 1
        have y2 := hz9.frozen 2
        have y3 := hz9.frozen 3
        have y4 := hz9.frozen 4
        have HE : Hid (∀ w', Below w.heap.size w w' → RetXA w F ⟨xA, xc, xr, xl, (p.half : Int), (sz : Int), xe⟩ sz p dlt (turnE sz p (ks.map RecR.abs)) (p.turnS sz (ks.map RecR.abs)) (.returned (.tuple #[.agg #[.slice xA xr.length xc, .int .i64 (xl : Int), .int .i64 (p.half : Int), .int .i64 (sz : Int), .int .i64 xe], .int .i64 5])) w') := fun w' b => by
          obtain ⟨e1, e2⟩ := HE5.out Hlo.out hroom
          rw [e1, e2]
          exact ⟨_, rfl, HPP.out, HX.out.below b, b⟩
        have HEB := Lib.hid (fun v0 v1 v2 v3 v4 => HE.out _ (HN.out w9 B9 v0 v1 v2 v3 v4))
        clear HE HE1 HE5 HE0 HX HPP hR hR9 hb9 hz9 Hks Hsm hroom d2
        go_wp2_with fail
        exact bodyPost_ret (v := .tuple #[.agg #[.slice xA xr.length xc, .int .i64 (xl : Int), .int .i64 (p.half : Int), .int .i64 (sz : Int), .int .i64 xe], .int .i64 5]) (by simp [results, Tryd.results28, go_sem, *]) rfl (HEB.out _ _ _ _ _)
      · have d2 : decide ((p.half : Int) - 1 < (sn : Int)) = false := decide_eq_false (by have := Hsn.out; omega)
        rw [d2]
        have HE := Lib.hid (HE0.out Hlo.out hroom)
        have hs9 := B9.size
        have hbl := hb9.lt
        have hzl := hz9.lt
        clear HE1 HE5 HE0 HN hroom d2 Hsn
        go_wp2_with ((with_reducible show wpList _ _ _ (⟨some 31, _, _, _, _, _⟩ :: _) _ _); refine wpList_append_rv el_xrec rfl (.tmp 29) (.tmp 30) rfl w9.heap.size (.slice (some ⟨w9.heap.size, 0, none⟩) 0 0) 0 [] rfl (own_empty w9 38 2 (Nat.le_refl _)) A ks.length cap (rC ks) rfl (rC_len _) (hR9.alloc _) (rC_one _) ?f2 ?f3 ?f4 ?_)
        case f2 => unfold maxLen; omega
        case f3 => omega
        case f4 => simp
        intro v7 w7 own7 gr7 hv7
        have own7' : w7.ownsRow w9.heap.size 38 2 v7 ks.length (rC ks) := by simpa using own7
        obtain ⟨A7, c7, rfl, _, _⟩ := own_form own7'
        have b7 : Below w9.heap.size w9 w7 := ((Below.refl _ w9).alloc (Nat.le_refl _) _).grown gr7 (by simp) (fun j hj => by have hj : w9.heap.size = j := Option.some.inj hj; omega)
        have g7 := hb9.below b7 hbl
        have k7 := hz9.below b7 hzl
        have HF : Hid (∀ (u0 u1 u2 v0 v1 v2 v3 v4 : Value), RetXA w F ⟨xA, xc, xr, xl, (p.half : Int), (sz : Int), xe⟩ sz p dlt (turnE sz p (ks.map RecR.abs)) (p.turnS sz (ks.map RecR.abs)) (.returned (.tuple #[.agg #[.slice A7 ks.length c7, .int .i64 (ks.length : Int), .int .i64 (p.half : Int), .int .i64 (sz : Int), .int .i64 (xe + 1)], .int .i64 0]))
            ((((((((w7.setCell ⟨w.heap.size, 0, none⟩ u0).setCell ⟨w.heap.size, 1, none⟩ u1).setCell ⟨w.heap.size, 4, none⟩ u2).setCell ⟨w.heap.size + 1, 0, none⟩ v0).setCell ⟨w.heap.size + 1, 1, none⟩ v1).setCell ⟨w.heap.size + 1, 2, none⟩ v2).setCell ⟨w.heap.size + 1, 3, none⟩ v3).setCell ⟨w.heap.size + 1, 4, none⟩ v4)) := by
          intro u0 u1 u2 v0 v1 v2 v3 v4
          rw [HE.out.1, HE.out.2]
          have B7 := B9.trans (b7.mono B9.size)
          have K : Kept (fun k => k = w.heap.size ∨ k = w.heap.size + 1) w7 ((((((((w7.setCell ⟨w.heap.size, 0, none⟩ u0).setCell ⟨w.heap.size, 1, none⟩ u1).setCell ⟨w.heap.size, 4, none⟩ u2).setCell ⟨w.heap.size + 1, 0, none⟩ v0).setCell ⟨w.heap.size + 1, 1, none⟩ v1).setCell ⟨w.heap.size + 1, 2, none⟩ v2).setCell ⟨w.heap.size + 1, 3, none⟩ v3).setCell ⟨w.heap.size + 1, 4, none⟩ v4) :=
            ((((((((Kept.refl (fun k => k = w.heap.size ∨ k = w.heap.size + 1) w7).setCell (p := ⟨w.heap.size, 0, none⟩) (.inl (.inl rfl)) u0).setCell (p := ⟨w.heap.size, 1, none⟩) (.inl (.inl rfl)) u1).setCell (p := ⟨w.heap.size, 4, none⟩) (.inl (.inl rfl)) u2).setCell (p := ⟨w.heap.size + 1, 0, none⟩) (.inl (.inr rfl)) v0).setCell (p := ⟨w.heap.size + 1, 1, none⟩) (.inl (.inr rfl)) v1).setCell (p := ⟨w.heap.size + 1, 2, none⟩) (.inl (.inr rfl)) v2).setCell (p := ⟨w.heap.size + 1, 3, none⟩) (.inl (.inr rfl)) v3).setCell (p := ⟨w.heap.size + 1, 4, none⟩) (.inl (.inr rfl)) v4
          have hx := XOK.push (F := F) (x := ⟨xA, xc, xr, ks.length, (p.half : Int), (sz : Int), xe + 1⟩) (rs := ks) Hks.out hF B7 own7' rfl hs9 K (fun k hk => by rcases hk with rfl | rfl <;> omega) (fun k hk hg => by have := (own7'.lt k hk).1; rcases hg with rfl | rfl <;> omega)
          refine ⟨⟨A7, c7, ks, ks.length, (p.half : Int), (sz : Int), xe + 1⟩, rfl, ⟨rfl, (List.length_map _).symm, rfl, rfl, ?_⟩, hx, B7.trans ((K.below (fun k _ hk => by rcases hk with rfl | rfl <;> omega) B7.size).mono (Nat.le_refl _))⟩
          have := HPP.out.epoch
          simp only at this
          show xe + 1 = ((p.e + 1 : Nat) : Int) + dlt
          omega
        have m0 : w7.cell? ⟨w.heap.size, 0, none⟩ = some (.slice xA xr.length xc) := g7.at_ rfl
        have m1 : w7.cell? ⟨w.heap.size, 1, none⟩ = some (.int .i64 (xl : Int)) := g7.at_ rfl
        have m2 : w7.cell? ⟨w.heap.size, 2, none⟩ = some (.int .i64 (p.half : Int)) := g7.at_ rfl
        have m3 : w7.cell? ⟨w.heap.size, 3, none⟩ = some (.int .i64 (sz : Int)) := g7.at_ rfl
        have m4 : w7.cell? ⟨w.heap.size, 4, none⟩ = some (.int .i64 xe) := g7.at_ rfl
        have fm0 := g7.frozen 0
        have fm1 := g7.frozen 1
        have fm4 := g7.frozen 4
        have z0 : w7.cell? ⟨w.heap.size + 1, 0, none⟩ = some (.slice none 0 0) := k7.at_ rfl
        have z1 : w7.cell? ⟨w.heap.size + 1, 1, none⟩ = some (.int .i64 0) := k7.at_ rfl
        have z2 : w7.cell? ⟨w.heap.size + 1, 2, none⟩ = some (.int .i64 0) := k7.at_ rfl
        have z3 : w7.cell? ⟨w.heap.size + 1, 3, none⟩ = some (.int .i64 0) := k7.at_ rfl
        have z4 : w7.cell? ⟨w.heap.size + 1, 4, none⟩ = some (.int .i64 0) := k7.at_ rfl
        have y0 := k7.frozen 0
        have y1 := k7.frozen 1
        have y2 := k7.frozen 2
        have y3 := k7.frozen 3
        have y4 := k7.frozen 4
        clear HE HX HPP hR hR9 hb9 hz9 Hks Hsm Hlo own7 own7' gr7 hv7 b7 g7 k7 c0 c1 c2 c3 c4
        go_wp2_with fail
        exact bodyPost_ret (v := .tuple #[.agg #[.slice A7 ks.length c7, .int .i64 (ks.length : Int), .int .i64 (p.half : Int), .int .i64 (sz : Int), .int .i64 (xe + 1)], .int .i64 0]) (by simp [results, Tryd.results28, go_sem, *]) rfl (HF.out _ _ _ _ _ _ _ _)
end Go.Proofs.YtpojlchikaffhaaDoor
