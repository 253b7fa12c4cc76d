/-
  The walk of a log's load.
-/
import Derived.Test.YtendnkklbeiegaaGreatDoorMAK
namespace Go.Proofs.YtendnkklbeiegaaGreatDoor
open Go.RowKit DiskP SumP PageP JourP

theorem tab_kept {w w' : World} {base : Nat} {j : JL} (hT : Tab w) (hJ : JOK w base j) (hg : 2 < base) {F : Nat → Prop} (k : Kept F w w') (hF : ∀ i, F i → j.foot i) : Tab w' := hT.far k fun hk => by
  have := (hJ.foot_lt (hF _ hk)).1
  omega
set_option maxHeartbeats 6400000 in
set_option maxRecDepth 100000 in
theorem jload_calls (j : JL) (f h u e : Nat) (rs : List Rec) (lasts : Nat) (w : World) (base : Nat) (hJ : JOK w base j) (hP : LoadP j f h u e rs lasts) (hrs : j.rs = []) (hT : Tab w) (hbase : base ≤ w.heap.size) (hg : 2 < base) :
    Calls Tryz.prog 120 #[.pointer (some ⟨j.G, 0, none⟩)] w (RetLoad w base j rs lasts) := by
  have hD := hP.hD
  have hB := hD.base
  have hlb : f + u * h + h ≤ j.y.lp.length := by have h1 := hB.lb; have h2 : j.y.abs.last.length = j.y.lp.length := List.length_map _; omega
  have hlp := hJ.dk.l2
  have hh : h ≤ 65536 := by omega
  have hf : f ≤ 65536 := by omega
  have he6 : e ≤ 1000000 := hB.e6
  have hz1 : 19 ≤ j.y.size := hB.s19
  have hz2 : j.y.size ≤ 4096 := hB.s40
  have hroom : 1 + sumNd j.y.size rs ≤ h := hB.room
  have hu := hP.hu
  have hkl : rs.length ≤ h := by have := len_le_sum hz1 hz2 rs hB.small; omega
  have BC := fun w9 (hJ9 : JOK w9 base j) => (jbegin_calls j u f h w9 base hJ9 hu hP.ffrom hP.fhalf hf hh).mono (fun _ _ ⟨a, q, hb⟩ => (⟨a, hb ▸ drewN_below w9 q⟩ : _ ∧ Below w9.heap.size w9 _))
  have BQ := fun q => jbegin_calls j u f h (w.drewN q) base (hJ.drewN q) hu hP.ffrom hP.fhalf hf hh
  have gk := hJ.gk
  unfold JL.cells at gk
  rw [hP.ffrom, hP.fhalf, hP.fsize, hP.fuse, hP.fe] at gk
  have c2 : w.cell? ⟨j.G, 2, none⟩ = some (.int .i64 (h : Int)) := gk.at_ rfl
  have c4 : w.cell? ⟨j.G, 4, none⟩ = some (.int .i64 (u : Int)) := gk.at_ rfl
  obtain ⟨b, hb⟩ : ∃ b, b = f + u * h := ⟨_, rfl⟩
  rw [← hb] at BC BQ hlb hD
  have HBB := Lib.hid hb
  have NC := fun w => pneed_calls (j.y.size : Int) 0 w
  rw [need_zero hz1 hz2] at NC
  clear hb
  go_enter Tryz.func120, Tryz.ntmps120
  go_wp2_with fail
  have s1 : IntKind.i64.wrap ((b : Int) + (h : Int)) = (b : Int) + (h : Int) := by rw [IntKind.wrap_i64]; omega
  go_quiet ((go_at_call 119; (with_reducible refine Calls.quiet_of (BQ _))))
  clear s1 BQ
  go_wp2_with fail
  have B1 : Below w.heap.size w (w.drewN nq) := drewN_below w nq
  have hJ1 := hJ.below B1
  have gk1 := gk.below B1 gk.lt
  generalize w.drewN nq = w1 at *
  have s1 : IntKind.i64.wrap ((b : Int) + 1) = (b : Int) + 1 := by rw [IntKind.wrap_i64]; omega
  have HS : Hid (∀ wq a6, Blk wq j.G 168 #[.pointer (some ⟨j.y.D, 0, none⟩), .int .i64 (f : Int), .int .i64 (h : Int), .int .i64 (j.y.size : Int), .int .i64 (u : Int), .int .i64 (e : Int), a6, j.v] →
      (wq.cell? ⟨j.G, 3, none⟩ = some (.int .i64 (j.y.size : Int)) ∧ wq.cell? ⟨j.G, 4, none⟩ = some (.int .i64 (u : Int)))) := fun wq a6 hq => ⟨hq.at_ rfl, hq.at_ rfl⟩
  have f1 := HS.out w1.drew _ gk1
  have b0 : Below w1.heap.size w1 w1.drew := (Below.refl _ _).drew
  have fz : ∀ w9, Below w1.heap.size w1 w9 → (w9.cell? ⟨j.G, 6, none⟩ = some (.int .i64 j.at_) ∧ w9.frozen? ⟨j.G, 6, none⟩ = false) := fun w9 b9 => ⟨(gk1.below b9 gk1.lt).at_ rfl, (gk1.below b9 gk1.lt).frozen 6⟩
  have FZ := Lib.hid fz
  clear fz c2 c4
  go_region_held (fun wq => wq.cell? ⟨j.G, 3, none⟩ = some (.int .i64 (j.y.size : Int)) ∧ wq.cell? ⟨j.G, 4, none⟩ = some (.int .i64 (u : Int))) (first | exact f1 | exact f9 | exact f10) (first
    | (go_at_call 119; (with_reducible refine (BC _ (hJ1.below b0)).mono ?_); rintro _ w9 ⟨rfl, b9z⟩; have b9 : Below w1.heap.size w1 w9 := ⟨b9z.os, b9z.tape, b9z.output, b9z.size, b9z.block⟩; clear b9z; have f9 := HS.out w9 _ (gk1.below b9 gk1.lt); have f10 := HS.out _ _ ((gk1.below b9 gk1.lt).set_ 6 (.int .i64 ((b : Int) + 1))); have c6 := (FZ.out w9 b9).1; have z6 := (FZ.out w9 b9).2)
    | (go_at_call 28; (with_reducible refine (NC _).mono ?_); rintro _ w' ⟨rfl, rfl⟩))
  have hB9 := B1.trans (b9.mono B1.size)
  have L0 : LoadX w base j b rs 0 (w9.setCell ⟨j.G, 6, none⟩ (.int .i64 ((b : Int) + 1))) := by
    obtain ⟨s1, _⟩ := (hJ1.below b9).setAt ((b : Int) + 1)
    have s2 := FootN.setAt (hJ1.below b9) ((b : Int) + 1)
    exact ⟨j.v, j.rs, by omega, by rw [hrs]; rfl, s1, (FootN.below hB9).trans s2⟩
  clear BC NC FZ HS f1 f9 f10 gk1 hJ1 b0 c6 z6 s1 b9 hB9 gk B1
  generalize w9.setCell ⟨j.G, 6, none⟩ (.int .i64 ((b : Int) + 1)) = wL at *
  go_wp2_with fail
  go_loopw [] (fun wr => ∃ k : Nat, LoadX w base j b rs k wr) (fun wr => b + h - (intOf ((wr.cell? ⟨j.G, 6, none⟩).getD undef)).toNat)
  case atStart => exact ⟨0, L0⟩
  case round =>
    obtain ⟨k, v, xs, L⟩ := hrel
    have hk := L.hk
    have hxl := L.len
    have gk := L.ok.gk
    unfold JL.cells JL.got at gk
    simp only [hP.ffrom, hP.fhalf, hP.fsize, hP.fuse, hP.fe] at gk
    obtain ⟨a, ha⟩ : ∃ a, a = b + pos j.y.size rs k := ⟨_, rfl⟩
    rw [← ha] at gk
    obtain ⟨AV, cV, hv, _, hcV⟩ : ∃ A c, v = .slice A xs.length c ∧ xs.length ≤ c ∧ c ≤ maxLen := own_form L.ok.kp.row.own
    subst hv
    have hkb : pos j.y.size rs k ≤ h := by have := pos_le (size := j.y.size) (rs := rs) (k := k) hk; omega
    have hab : a ≤ 200000 := by omega
    have hp1 := pos_ge j.y.size rs k
    have c0 : wr.cell? ⟨j.G, 0, none⟩ = some (.pointer (some ⟨j.y.D, 0, none⟩)) := gk.at_ rfl
    have c5 : wr.cell? ⟨j.G, 5, none⟩ = some (.int .i64 (e : Int)) := gk.at_ rfl
    have c6 : wr.cell? ⟨j.G, 6, none⟩ = some (.int .i64 (a : Int)) := gk.at_ rfl
    have c7 : wr.cell? ⟨j.G, 7, none⟩ = some (.slice AV xs.length cV) := gk.at_ rfl
    by_cases hlt : a < b + h
    · have dec : decide ((a : Int) < (b : Int) + (h : Int)) = true := decide_eq_true (by omega)
      have hA := Lib.hid ha
      have HXL := Lib.hid hxl
      have Tr : Tab wr := tab_kept hT hJ hg L.fn.1 (fun _ h => h)
      have PG := pget_calls j.y (a : Int) wr.drew base (L.ok.dk.below ((Below.refl _ _).drew)) (Tr.below ((Below.refl _ _).drew))
      have HS : Hid (∀ wq, Blk wq j.G 168 #[.pointer (some ⟨j.y.D, 0, none⟩), .int .i64 (f : Int), .int .i64 (h : Int), .int .i64 (j.y.size : Int), .int .i64 (u : Int), .int .i64 (e : Int), .int .i64 (a : Int), .slice AV xs.length cV] →
        (wq.cell? ⟨j.G, 0, none⟩ = some (.pointer (some ⟨j.y.D, 0, none⟩)) ∧ wq.cell? ⟨j.G, 6, none⟩ = some (.int .i64 (a : Int)))) := fun wq hq => ⟨hq.at_ rfl, hq.at_ rfl⟩
      have f1 := HS.out wr.drew gk
      rcases Classical.em ((getR j.y.abs (a : Int)).1 = 0) with hE | hE
      · have hkr : k < rs.length := by
          rcases Nat.lt_or_ge k rs.length with h1 | h1
          · exact h1
          · exfalso
            obtain rfl : k = rs.length := by omega
            rw [ha] at hE
            exact hD.end_ (by show pos j.y.size rs rs.length < h; omega) hE
        obtain ⟨r, hr⟩ : ∃ r, rs[k]? = some r := ⟨_, List.getElem?_eq_getElem hkr⟩
        have hG : getR j.y.abs (a : Int) = (0, 82, recMark e k, r.bytes, ((r.nd j.y.size : Nat) : Int)) := by
          rcases hD.next hr with h2 | h2
          · rw [ha]; exact h2
          · rw [ha] at hE; exact absurd hE h2.1
        rw [hG] at PG
        have hsm := hB.small r (List.mem_of_getElem? hr)
        have hbl : r.bytes.length = 1 + r.body.length := r.bytes_len
        have hps := pos_succ (size := j.y.size) hr
        have hnp := nd_pos hz1 hz2 (r := r) (by omega)
        have hle1 := pos_le (size := j.y.size) (rs := rs) (k := k + 1) (by omega)
        obtain ⟨n, hm⟩ : ∃ n, n = r.bytes.length := ⟨_, rfl⟩
        rw [← hm] at hbl
        have PG' : Calls Tryz.prog 82 #[.pointer (some ⟨j.y.D, 0, none⟩), .int .i64 (a : Int)] wr.drew (fun e' w5 => ∃ g c, e' = .returned (.tuple #[.int .u8 82, .int .i64 (recMark e k), .slice (some ⟨g, 0, none⟩) n c, .int .i64 (r.nd j.y.size : Int), .int .i64 0]) ∧ w5.ownsRow wr.heap.size 5 1 (.slice (some ⟨g, 0, none⟩) n c) n (cB r.bytes) ∧ Below wr.heap.size wr w5) := by
          refine PG.mono ?_
          rintro e' w5 ⟨v5, rfl, o5, b5⟩
          have o5' : w5.ownsRow wr.heap.size 5 1 v5 r.bytes.length (cB r.bytes) := o5
          rw [← hm] at o5'
          rcases o5'.2 with ⟨_, h0⟩ | ⟨g, c, cur, rfl, _⟩
          · omega
          · exact ⟨g, c, rfl, o5', ⟨b5.os, b5.tape, b5.output, b5.size, b5.block⟩⟩
        clear PG hE hG
        have dl0 : ((n : Int) == 0) = false := by rw [beq_eq_false_iff_ne]; omega
        have dl1 : (n == 0) = false := by rw [beq_eq_false_iff_ne]; omega
        have hn1 : 0 < n := by omega
        have dn : decide ((b : Int) + (h : Int) - (a : Int) < (r.nd j.y.size : Int)) = false := decide_eq_false (by omega)
        have s1 : IntKind.i64.wrap ((e : Int) * 1048576) = (e : Int) * 1048576 := by rw [IntKind.wrap_i64]; omega
        have s2 : IntKind.i64.wrap ((e : Int) * 1048576 + (xs.length : Int)) = (e : Int) * 1048576 + (xs.length : Int) := by rw [IntKind.wrap_i64]; omega
        have s3 : IntKind.i64.wrap ((e : Int) * 1048576 + (xs.length : Int) + 1) = recMark e k := by rw [IntKind.wrap_i64, hxl]; unfold recMark; omega
        have dm : (recMark e k != recMark e k) = false := by simp
        have KB : Hid (∀ w5, Below wr.heap.size wr w5 → Blk w5 j.G 168 #[.pointer (some ⟨j.y.D, 0, none⟩), .int .i64 (f : Int), .int .i64 (h : Int), .int .i64 (j.y.size : Int), .int .i64 (u : Int), .int .i64 (e : Int), .int .i64 (a : Int), .slice AV xs.length cV]) := fun w5 b5 => gk.below b5 gk.lt
        have hnb : r.nd j.y.size ≤ 65536 := by omega
        have HPS := Lib.hid hps
        have HR := Lib.hid hr
        have HL := Lib.hid L
        have HBL := Lib.hid hbl
        have hb2 : n ≤ 4001 := by omega
        have HMM := Lib.hid hm
        have hw6 := c6
        have hxb : xs.length ≤ 65536 := by omega
        have hb65 : b ≤ 65536 := by omega
        have HM := Lib.hid (show a < b + h ∧ 1 ≤ r.nd j.y.size from ⟨hlt, hnp⟩)
        clear hm hps hr L hxl hbl ha hD hB gk hrs hP hu hf hz1 hz2 hroom hkl hk hkb hp1 hkr hsm hnp hle1 hcV hlb hlp L0 hlt
        go_wp2_with fail
        go_region_held (fun wq => wq.cell? ⟨j.G, 0, none⟩ = some (.pointer (some ⟨j.y.D, 0, none⟩)) ∧ wq.cell? ⟨j.G, 6, none⟩ = some (.int .i64 (a : Int))) (first | exact f1 | exact f5) (first
          | (go_at_call 82; (with_reducible refine PG'.mono ?_); rintro _ w5 ⟨g, c, rfl, o5, b5⟩; have f5 := HS.out w5 (KB.out w5 b5)))
        clear PG' HS f1 f5 c0 c5 c6 c7
        have c5 : w5.cell? ⟨j.G, 5, none⟩ = some (.int .i64 (e : Int)) := (KB.out w5 b5).at_ rfl
        have c7 : w5.cell? ⟨j.G, 7, none⟩ = some (.slice AV xs.length cV) := (KB.out w5 b5).at_ rfl
        go_wp2_with fail
        go_quiet (fail)
        clear s1 s2 s3 c5 c7
        have b6 : Below wr.heap.size wr (w5.drewN nq) := ⟨b5.os, b5.tape, b5.output, b5.size, b5.block⟩
        have o6 : (w5.drewN nq).ownsRow wr.heap.size 5 1 (.slice (some ⟨g, 0, none⟩) n c) n (cB r.bytes) := o5
        clear b5 o5
        generalize w5.drewN nq = w6 at *
        have gk6 := KB.out w6 b6
        have c6 : w6.cell? ⟨j.G, 6, none⟩ = some (.int .i64 (a : Int)) := gk6.at_ rfl
        have s1 : IntKind.i64.wrap ((b : Int) + (h : Int) - (a : Int)) = (b : Int) + (h : Int) - (a : Int) := by rw [IntKind.wrap_i64]; omega
        go_wp2_with fail
        clear s1 c6 dec dl0 dl1 dn dm
        have c7 : w6.cell? ⟨j.G, 7, none⟩ = some (.slice AV xs.length cV) := gk6.at_ rfl
        have c7a : ∀ o, (w6.alloc o).cell? ⟨j.G, 7, none⟩ = some (.slice AV xs.length cV) := fun o => (gk6.alloc o).at_ rfl
        have hlB := HBL.out
        have hmB := HMM.out
        have cBl : (cB r.bytes).length = n := by rw [cB_len]; omega
        have cBs : ∀ i, (cB r.bytes)[1 + i]? = (cB r.body)[i]? := fun i => by
          show (cB (r.kind :: r.body))[1 + i]? = _
          rw [Nat.add_comm 1 i]
          rfl
        have g0 : w6.cell? ⟨g, 0, none⟩ = some (.int .u8 (r.kind.toNat : Int)) := by
          have := o6.cells (g := g) rfl 0 (byteV r.kind) rfl
          rw [add_zero_off] at this
          exact this
        have hgl := o6.lt g rfl
        obtain ⟨hmc, hcm⟩ : n ≤ c ∧ c ≤ maxLen := by
          obtain ⟨_, _, e, h1, h2⟩ := own_form o6
          injection e with _ _ e
          subst e
          exact ⟨h1, h2⟩
        have row6 : w6.ownsRow base 107 2 (.slice AV xs.length cV) xs.length (rC xs) := (HL.out.below b6).ok.kp.row.own
        have hsw := b6.size
        have hbw : w.heap.size ≤ wr.heap.size := HL.out.fn.1.size
        have HP : Hid (∀ (x : RecR) (w7 : World) (v7 : Value), x.abs = r → RecOK w6 (fun k => k < wr.heap.size) x → w7.ownsRow base 107 2 v7 (xs.length + 1) (rC xs ++ x.cells) → (w6.alloc (.cells x.cells.toArray 107)).grownBy w7 (Value.slice AV xs.length cV).ownBlock → (v7.ownBlock = (Value.slice AV xs.length cV).ownBlock ∨ v7.ownBlock = some (w6.heap.size + 1)) →
            LoadX w base j b rs (k + 1) ((w7.setCell ⟨j.G, 7, none⟩ v7).setCell ⟨j.G, 6, none⟩ (.int .i64 ((a : Int) + (r.nd j.y.size : Int)))) ∧ ((w7.setCell ⟨j.G, 7, none⟩ v7).setCell ⟨j.G, 6, none⟩ (.int .i64 ((a : Int) + (r.nd j.y.size : Int)))).cell? ⟨j.G, 6, none⟩ = some (.int .i64 ((a : Int) + (r.nd j.y.size : Int)))) := by
          intro x w7 v7 hx ho own7 gr7 hv7
          obtain ⟨v', xs', L'⟩ := LoadR.push (a := a + r.nd j.y.size) (w0 := w6.alloc (.cells x.cells.toArray 107)) HL.out HR.out hx b6 ho ((Below.refl _ _).alloc (Nat.le_refl _) _) own7 gr7 (by simpa using hv7) (by have := HPS.out; have := hA.out; omega)
          have q := L'.ok.c6
          have e : (b + pos j.y.size rs (k + 1) : Nat) = a + r.nd j.y.size := by have := HPS.out; have := hA.out; omega
          rw [Int.natCast_add] at q L'
          refine ⟨⟨v', xs', L'⟩, q.trans ?_⟩
          show some (Value.int .i64 ((b + pos j.y.size rs (k + 1) : Nat) : Int)) = _
          rw [e, Int.natCast_add]
        have KG : Hid (∀ (w7 : World) (o : Obj), (w6.alloc o).grownBy w7 (Value.slice AV xs.length cV).ownBlock → Blk w7 j.G 168 #[.pointer (some ⟨j.y.D, 0, none⟩), .int .i64 (f : Int), .int .i64 (h : Int), .int .i64 (j.y.size : Int), .int .i64 (u : Int), .int .i64 (e : Int), .int .i64 (a : Int), .slice AV xs.length cV]) := by
          intro w7 o gr
          exact (gr.block j.G (by have := gk6.lt; simp; omega) (fun e => HL.out.ok.kp.gv e.symm)).trans (gk6.alloc o)
        obtain ⟨A2, hA2⟩ : ∃ A2 : Option Addr, (if c = 1 then some ⟨g, 0, none⟩ else some ⟨g, 1, none⟩) = A2 := ⟨_, rfl⟩
        have ho : RecOK w6 (fun k => k < wr.heap.size) ⟨r.kind, A2, c - 1, r.body⟩ := ⟨fun hne => by
            have hb0 : 0 < r.body.length := by
              rcases Nat.eq_zero_or_pos r.body.length with h0 | h0
              · exact absurd (by rw [List.length_eq_zero_iff.1 h0]; rfl) hne
              · exact h0
            rw [if_neg (by omega)] at hA2
            refine ⟨g, 1, hA2.symm, hgl.2, by simp; omega, fun i v hi => ?_⟩
            have := o6.cells (g := g) rfl (1 + i) v (by rw [cBs]; exact hi)
            rw [add_zero_off] at this
            exact this, by show r.body.length ≤ c - 1; omega, by show c - 1 ≤ _; unfold maxLen at hcm; omega⟩
        have HO := Lib.hid ho
        have rv : RV ((w6.alloc (.cells #[.int .u8 (r.kind.toNat : Int), .slice A2 (n - 1) (c - 1)] 107)).drew) (some ⟨w6.heap.size, 0, none⟩) [.int .u8 (r.kind.toNat : Int), .slice A2 (n - 1) (c - 1)] := RV.new w6 [.int .u8 (r.kind.toNat : Int), .slice A2 (n - 1) (c - 1)] 107 (0, 0)
        have hmc1 : 1 ≤ c := by omega
        have hn1' : 1 ≤ n := by omega
        have hbs6 : base ≤ w6.heap.size := by omega
        have HCB := Lib.hid cBs
        have hn1i : (1 : Int) ≤ (n : Int) := by omega
        clear hlB cBl cBs o6 ho gk6
        have hmBH := Lib.hid hmB
        clear hmB
        go_region_law ((refine step_append_rv (A := some ⟨w6.heap.size, 0, none⟩) (m := 1) (c := 1) (v := .slice AV xs.length cV) (n := xs.length) (base := base) (xs := rC xs) el_rec rfl (.tmp 102) (.tmp 109) rfl rfl ((row6.alloc _).drew) rfl rfl rv (rec_one _ _ _ _) (by unfold maxLen; omega) (by omega) (by simp; omega) ?_; intro v7 w7 own7 gr7 hv7; (obtain ⟨A7, c7v, hv7f, _, _⟩ := own_form own7); subst hv7f; have g7 := KG.out w7 (.cells #[.int .u8 (r.kind.toNat : Int), .slice A2 (n - 1) (c - 1)] 107) ⟨gr7.os, gr7.tape, gr7.output, gr7.size, gr7.block⟩; have HC := Lib.hid (HP.out ⟨r.kind, A2, c - 1, r.body⟩ w7 _ rfl HO.out (by rw [show RecR.cells ⟨r.kind, A2, c - 1, r.body⟩ = [.int .u8 (r.kind.toNat : Int), .slice A2 (n - 1) (c - 1)] by unfold RecR.cells; rw [show n - 1 = r.body.length by have := HBL.out; omega]]; exact own7) (by rw [show RecR.cells ⟨r.kind, A2, c - 1, r.body⟩ = [.int .u8 (r.kind.toNat : Int), .slice A2 (n - 1) (c - 1)] by unfold RecR.cells; rw [show n - 1 = r.body.length by have := HBL.out; omega]]; exact ⟨gr7.os, gr7.tape, gr7.output, gr7.size, gr7.block⟩) (by simpa using hv7)); have z7 : w7.cell? ⟨j.G, 7, none⟩ = some (.slice AV xs.length cV) := g7.at_ rfl; have y7 := g7.frozen 7; have z6 : w7.cell? ⟨j.G, 6, none⟩ = some (.int .i64 (a : Int)) := g7.at_ rfl; have y6 := g7.frozen 6; clear g7 own7 gr7 hv7))
        all_goals
          clear HP KG KB rv row6
          go_wp2
          refine ⟨⟨k + 1, HC.out.1⟩, ?_⟩
          rw [HC.out.2, hw6]
          obtain ⟨m1, m2⟩ := HM.out
          simp only [intOf, Option.getD_some]
          omega
      · have hE10 := getR_no_down j.y.abs (a : Int) hB.off
        have hkl : lasts ≤ k := by
          rcases Nat.lt_or_ge k rs.length with h1 | h1
          · rcases hD.next (List.getElem?_eq_getElem h1) with h2 | h2
            · exfalso
              rw [ha] at hE
              exact hE (congrArg Prod.fst h2)
            · exact h2.2
          · have := hD.lle; omega
        generalize getR j.y.abs (a : Int) = R at PG hE hE10
        obtain ⟨E, K, M, LL, N⟩ := R
        simp only at hE hE10
        have dE0 : (E != 0) = true := by simpa using hE
        have dE10 : (E == 10) = false := by simpa using hE10
        have HF : Hid (∀ w5, Below wr.heap.size wr w5 → RetLoad w base j rs lasts (.returned (.int .i64 0)) w5) := fun w5 b5 => ⟨rfl, k, _, _, xs, hkl, hk, L.xa, (L.below b5).ok, (L.below b5).fn⟩
        have KB : Hid (∀ w5, Below wr.heap.size wr w5 → Blk w5 j.G 168 #[.pointer (some ⟨j.y.D, 0, none⟩), .int .i64 (f : Int), .int .i64 (h : Int), .int .i64 (j.y.size : Int), .int .i64 (u : Int), .int .i64 (e : Int), .int .i64 (a : Int), .slice AV xs.length cV]) := fun w5 b5 => gk.below b5 gk.lt
        clear hE hE10 hkl L hxl ha hD hB gk
        go_wp2_with fail
        go_region_held (fun wq => wq.cell? ⟨j.G, 0, none⟩ = some (.pointer (some ⟨j.y.D, 0, none⟩)) ∧ wq.cell? ⟨j.G, 6, none⟩ = some (.int .i64 (a : Int))) (first | exact f1 | exact f5) (first
          | (go_at_call 82; (with_reducible refine PG.mono ?_); rintro _ w5 ⟨v5, rfl, o5, b5z⟩; have b5 : Below wr.heap.size wr w5 := ⟨b5z.os, b5z.tape, b5z.output, b5z.size, b5z.block⟩; clear b5z; have f5 := HS.out w5 (KB.out w5 b5)))
        clear PG HS f1 f5 c0 c5 c6 c7 o5
        have c5 : w5.cell? ⟨j.G, 5, none⟩ = some (.int .i64 (e : Int)) := (KB.out w5 b5).at_ rfl
        have c7 : w5.cell? ⟨j.G, 7, none⟩ = some (.slice AV xs.length cV) := (KB.out w5 b5).at_ rfl
        have b6 : ∀ q, Below wr.heap.size wr (w5.drewN q) := fun q => ⟨b5.os, b5.tape, b5.output, b5.size, b5.block⟩
        have B6 := Lib.hid b6
        clear KB b6 b5
        go_wp2_with fail
        go_quiet (fail)
        go_wp2
        go_ret
        exact HF.out _ (B6.out _)
    · have dec : decide ((a : Int) < (b : Int) + (h : Int)) = false := decide_eq_false (by omega)
      have hkk := pos_full hz1 hz2 hB.small hroom hk (by omega)
      have HF : Hid (RetLoad w base j rs lasts (.returned (.int .i64 0)) wr) := ⟨rfl, k, _, _, xs, by have := hD.lle; omega, hk, L.xa, L.ok, L.fn⟩
      clear hkk L hxl ha hD hB
      go_wp2
      go_ret
      exact HF.out
end Go.Proofs.YtendnkklbeiegaaGreatDoor
