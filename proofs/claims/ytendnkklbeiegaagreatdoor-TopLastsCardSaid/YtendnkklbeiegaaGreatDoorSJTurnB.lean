/-
  The walk of a log's turn.
-/
import Derived.Test.YtendnkklbeiegaaGreatDoorMAK
namespace Go.Proofs.YtendnkklbeiegaaGreatDoor
open Go.RowKit DiskP SumP PageP JourP

set_option maxHeartbeats 6400000 in
set_option maxRecDepth 100000 in
theorem jturn_calls (j : JL) (f h u ep : Nat) (v : Value) (ks : List RecR) (w : World) (base : Nat) (hJ : JOK w base j) (hK : KeepR w base j.G j.y v ks) (hP : TurnP j f h u ep ks) (hT : Tab w) (hbase : base ≤ w.heap.size) (hg : 2 < base) :
    Calls Tryz.prog 76 #[.pointer (some ⟨j.G, 0, none⟩), v] w (RetTurn w base j (1 - u) (ep + 1) (f + (1 - u) * h + pos j.y.size (ks.map RecR.abs) ks.length) v ks (turnD j.y.abs (f + (1 - u) * h) h (ep + 1) (ks.map RecR.abs))) := by
  have hB := hP.hB
  have hlb : f + (1 - u) * h + h ≤ j.y.lp.length := by have h1 := hB.lb; have h2 : j.y.abs.last.length = j.y.lp.length := List.length_map _; omega
  have hlp := hJ.dk.l2
  have hh : h ≤ 65536 := by omega
  have hf : f ≤ 65536 := by omega
  have he6 : ep + 1 ≤ 1000000 := hB.e6
  have hz1 : 19 ≤ j.y.size := hB.s19
  have hz2 : j.y.size ≤ 4096 := hB.s40
  have hroom : 1 + sumNd j.y.size (ks.map RecR.abs) ≤ h := hB.room
  have hu := hP.hu
  have hw := hP.hw
  obtain ⟨AV, cV, rfl, _, hcV⟩ := own_form hK.row.own
  have hkl : ks.length ≤ h := by
    have := len_le_sum hz1 hz2 (ks.map RecR.abs) hB.small
    rw [List.length_map] at this
    omega
  have BC := fun q => jbegin_calls j (1 - u) f h (w.drewN q) base (hJ.drewN q) (by omega) hP.ffrom hP.fhalf hf hh
  have gk := hJ.gk
  unfold JL.cells at gk
  rw [hP.ffrom, hP.fhalf, hP.fsize, hP.fuse, hP.fe] at gk
  have c3 : w.cell? ⟨j.G, 3, none⟩ = some (.int .i64 (j.y.size : Int)) := gk.at_ rfl
  have c4 : w.cell? ⟨j.G, 4, none⟩ = some (.int .i64 (u : Int)) := gk.at_ rfl
  have c5 : w.cell? ⟨j.G, 5, none⟩ = some (.int .i64 (ep : Int)) := gk.at_ rfl
  obtain ⟨u', hu'⟩ : ∃ u', u' = 1 - u := ⟨_, rfl⟩
  obtain ⟨e', he'⟩ : ∃ e', e' = ep + 1 := ⟨_, rfl⟩
  obtain ⟨b, hb⟩ : ∃ b, b = f + (1 - u) * h := ⟨_, rfl⟩
  have s1 : IntKind.i64.wrap (1 - (u : Int)) = (u' : Int) := by rw [IntKind.wrap_i64]; omega
  have s2 : IntKind.i64.wrap ((ep : Int) + 1) = (e' : Int) := by rw [IntKind.wrap_i64]; omega
  rw [← hb] at BC hlb ⊢
  rw [← hu'] at BC ⊢
  rw [← he'] at ⊢ he6
  have NC := fun w => pneed_calls (j.y.size : Int) 0 w
  rw [need_zero hz1 hz2] at NC
  have HU := Lib.hid hu'
  have HE := Lib.hid he'
  have HBB := Lib.hid hb
  rw [← hb, ← he'] at hB
  clear hu' he' hb
  go_enter Tryz.func76, Tryz.ntmps76
  go_wp2_with fail
  go_quiet (fail)
  clear s1 s2
  go_wp2_with fail
  refine (BC _).mono ?_
  clear BC
  rintro _ w1 ⟨rfl, q, rfl⟩
  rw [World.drewN_drewN] at *
  go_wp2_with fail
  refine (NC _).mono ?_
  clear NC
  rintro _ w1 ⟨rfl, rfl⟩
  have B1 : Below w.heap.size w (w.drewN (nq + q)) := drewN_below w (nq + q)
  clear gk c3 c4 c5
  have X0 : TurnX w base j (.slice AV ks.length cV) ks (putsD j.y.abs b e' (ks.map RecR.abs) 0) (w.drewN (nq + q)) := ⟨_, (TurnR.start hJ hK).below B1⟩
  generalize w.drewN (nq + q) = w1 at *
  have hsz : j.y.abs.size = j.y.size := rfl
  go_wp2_with fail
  go_loopw [8, 41] (fun a i wr => ∃ k a' : Nat, k ≤ ks.length ∧ a' = b + pos j.y.size (ks.map RecR.abs) k ∧ i = .int .i64 (k : Int) ∧ a = .int .i64 (a' : Int) ∧ TurnX w base j (.slice AV ks.length cV) ks (putsD j.y.abs b e' (ks.map RecR.abs) k) wr) (fun _ i _ => ks.length - (intOf i).toNat)
  case atStart => exact ⟨0, b + 1, by omega, rfl, rfl, rfl, X0⟩
  case round =>
    obtain ⟨k, a', hk, ha', rfl, rfl, y', t⟩ := hrel
    have HA := Lib.hid ha'
    have hA : b + pos j.y.abs.size (ks.map RecR.abs) k = a' := ha'.symm
    have hkb : pos j.y.size (ks.map RecR.abs) k ≤ h := by have := pos_le (size := j.y.size) (rs := ks.map RecR.abs) (k := k) (by rw [List.length_map]; exact hk); omega
    by_cases hlt : k < ks.length
    · have dec : decide ((k : Int) < (ks.length : Int)) = true := decide_eq_true (by omega)
      have dec' : decide (k < ks.length) = true := decide_eq_true hlt
      obtain ⟨x, hxk⟩ : ∃ x, ks[k]? = some x := ⟨_, List.getElem?_eq_getElem hlt⟩
      obtain ⟨g, c, hgc, hgl, x0, x1, xok⟩ := t.recAt hxk
      injection hgc with hgA _ hgc
      subst hgA hgc
      have hrk : (ks.map RecR.abs)[k]? = some x.abs := by rw [List.getElem?_map, hxk]; rfl
      obtain ⟨i1, i2, i3⟩ := puts_next hB hrk
      have hxs := hB.small x.abs (List.mem_of_getElem? hrk)
      have hxl : x.body.length ≤ 4000 := hxs
      have HPS := Lib.hid (pos_succ (size := j.y.size) hrk)
      have hnb : x.abs.nd j.y.size ≤ 65536 := by
        have h1 := pos_le (size := j.y.size) (rs := ks.map RecR.abs) (k := k + 1) (by rw [List.length_map]; omega)
        have h2 := HPS.out
        omega
      rw [hA] at i1 i2 i3
      have hab : a' ≤ 200000 := by omega
      clear hxk hrk hxs hA ha'
      have BB := Blk.new wr 107 #[.int .u8 (x.kind.toNat : Int), .slice x.A x.body.length x.cap]
      have b8 : Below wr.heap.size wr (wr.alloc (.cells #[.int .u8 (x.kind.toNat : Int), .slice x.A x.body.length x.cap] 107)) := (Below.refl _ _).alloc (Nat.le_refl _) _
      go_wp2_with fail
      clear x0 x1
      generalize wr.alloc (.cells #[.int .u8 (x.kind.toNat : Int), .slice x.A x.body.length x.cap] 107) = w8 at *
      have t8 := t.below b8
      have gk8 := t8.gkP hP
      have hs8 := b8.size
      have hwr : w.heap.size ≤ wr.heap.size := t.fn.1.size
      have T8 : Tab w8 := (hT.far t.fn.1 (fun hk => by
        rcases hk with hk | hk
        · have := hJ.bG; omega
        · have := (hJ.dk.foot_lt hk).1; omega)).below b8
      have xr8 : RB w8.drew x.A x.body := (xok.below b8).rd.rv
      have hbl : x.abs.bytes.length = 1 + x.body.length := x.abs.bytes_len
      have BC := jbytes_calls x w8.drew xr8 (by omega)
      obtain ⟨t1, t2, t3, t4⟩ := t.lens
      have hwl := puts_wl j.y.abs b e' (ks.map RecR.abs) k (by rw [List.length_map]; omega)
      have hjw : j.y.abs.wait.length = j.y.wp.length := by simp [Lay.abs]
      have hpe : pos j.y.abs.size (ks.map RecR.abs) k = pos j.y.size (ks.map RecR.abs) k := rfl
      have PC := fun (w9 : World) (A9 : Option Addr) (c9 : Nat) (b9 : Below w8.heap.size w8 w9) (o9 : w9.ownsRow w8.heap.size 5 1 (.slice A9 x.abs.bytes.length c9) x.abs.bytes.length (cB x.abs.bytes)) =>
        pput_calls y' (a' : Int) 82 (recMark e' k) x.abs.bytes A9 c9 w9 base ((t8.below b9).ok.dk) (T8.below b9) (by have := b9.size; omega) (own_rvf o9 (fun k hk => .inl (t8.ok.dk.foot_lt hk).2)) (by obtain ⟨_, _, e, h1, h2⟩ := own_form o9; injection e with _ _ e; omega) (by obtain ⟨_, _, e, h1, h2⟩ := own_form o9; injection e with _ _ e; unfold maxLen at h2; omega) (by omega) hg
      have e82 : (((82 : UInt8).toNat : Nat) : Int) = 82 := rfl
      rw [t.abs, i1, i2, i3, e82] at PC
      have s1 : IntKind.i64.wrap ((e' : Int) * 1048576) = (e' : Int) * 1048576 := by rw [IntKind.wrap_i64]; omega
      have s2 : IntKind.i64.wrap ((e' : Int) * 1048576 + (k : Int)) = (e' : Int) * 1048576 + (k : Int) := by rw [IntKind.wrap_i64]; omega
      have s3 : IntKind.i64.wrap ((e' : Int) * 1048576 + (k : Int) + 1) = recMark e' k := by rw [IntKind.wrap_i64]; unfold recMark; omega
      have HS : Hid (∀ wq, Blk wq wr.heap.size 107 #[.int .u8 (x.kind.toNat : Int), .slice x.A x.body.length x.cap] → Blk wq j.G 168 #[.pointer (some ⟨y'.D, 0, none⟩), .int .i64 (f : Int), .int .i64 (h : Int), .int .i64 (j.y.size : Int), .int .i64 (u : Int), .int .i64 (ep : Int), .int .i64 j.at_, j.v] →
          (wq.cell? ⟨wr.heap.size, 0, none⟩ = some (.int .u8 (x.kind.toNat : Int)) ∧ wq.cell? ⟨wr.heap.size, 1, none⟩ = some (.slice x.A x.body.length x.cap) ∧ wq.cell? ⟨j.G, 0, none⟩ = some (.pointer (some ⟨y'.D, 0, none⟩)))) :=
        fun wq h1 h2 => ⟨h1.at_ rfl, h1.at_ rfl, h2.at_ rfl⟩
      have f8 := HS.out w8.drew BB gk8
      have KB : Hid (∀ (w9 w5 : World) (S : Dsk), Below w8.heap.size w8 w9 → Next w9 base y' S w5 → Blk w5 wr.heap.size 107 #[.int .u8 (x.kind.toNat : Int), .slice x.A x.body.length x.cap] ∧ Blk w5 j.G 168 #[.pointer (some ⟨y'.D, 0, none⟩), .int .i64 (f : Int), .int .i64 (h : Int), .int .i64 (j.y.size : Int), .int .i64 (u : Int), .int .i64 (ep : Int), .int .i64 j.at_, j.v]) :=
        fun w9 w5 S b9 n => ⟨(t8.keep b9 (_k := 0) (fun hk => by have := (t.ok.dk.foot_lt hk).2; omega) BB.lt n).trans BB, (t8.keep b9 (_k := 0) t.ok.gy gk8.lt n).trans gk8⟩
      have HX : Hid (∀ (w9 w5 : World), Below w8.heap.size w8 w9 → Next w9 base y' (putsD j.y.abs b e' (ks.map RecR.abs) (k + 1)) w5 → TurnX w base j (.slice (some ⟨g, 0, none⟩) ks.length cV) ks (putsD j.y.abs b e' (ks.map RecR.abs) (k + 1)) w5) :=
        fun w9 w5 b9 n => (t8.below b9).next n
      clear i1 i2 i3 t1 t2 t3 t4 hwl hjw hpe hbl e82 hcV
      go_region_held (fun wq => wq.cell? ⟨wr.heap.size, 0, none⟩ = some (.int .u8 (x.kind.toNat : Int)) ∧ wq.cell? ⟨wr.heap.size, 1, none⟩ = some (.slice x.A x.body.length x.cap) ∧ wq.cell? ⟨j.G, 0, none⟩ = some (.pointer (some ⟨y'.D, 0, none⟩))) (first | exact f8 | exact f9 | exact f5) (first
        | (go_at_call 121; (with_reducible refine BC.mono ?_); rintro _ w9 ⟨A9, c9, rfl, o9z, b9z⟩; have o9 : w9.ownsRow w8.heap.size 5 1 (.slice A9 x.abs.bytes.length c9) x.abs.bytes.length (cB x.abs.bytes) := o9z; have b9 : Below w8.heap.size w8 w9 := ⟨b9z.os, b9z.tape, b9z.output, b9z.size, b9z.block⟩; clear o9z b9z; have f9 := HS.out w9 (BB.below b9 BB.lt) (gk8.below b9 gk8.lt))
        | (go_at_call 66; (with_reducible refine (PC w9 A9 c9 b9 o9).mono ?_); rintro _ w5 ⟨rfl, n5⟩; have kb := KB.out w9 w5 _ b9 n5; have f5 := HS.out w5 kb.1 kb.2; have HXX := Lib.hid (HX.out w9 w5 b9 n5); clear n5 kb f9 o9))
      clear HS KB HX PC BC f8 f5 s1 s2 s3 gk8 BB t8 t T8 xr8 xok
      go_wp2
      go_roundw
      case rel => exact ⟨k + 1, a' + x.abs.nd j.y.size, by omega, by rw [HPS.out, HA.out]; omega, by go_num, by go_num, HXX.out⟩
      case measure => simp [intOf]; omega
    · obtain rfl : k = ks.length := by omega
      have dec : decide ((ks.length : Int) < (ks.length : Int)) = false := decide_eq_false (by omega)
      have dec' : decide (ks.length < ks.length) = false := decide_eq_false (by omega)
      have hpa : pos j.y.size (ks.map RecR.abs) ks.length = pos j.y.size (ks.map RecR.abs) (ks.map RecR.abs).length := by rw [List.length_map]
      have T2 : TurnX w base j (.slice AV ks.length cV) ks (zerosD (putsD j.y.abs b e' (ks.map RecR.abs) ks.length) a' 0) wr := by rw [zerosD_zero]; exact ⟨y', t⟩
      have hab : a' ≤ b + h := by omega
      have hmk := run_make_n el_u8 rfl j.y.size (by omega) (by omega)
      clear t X0 hpa ha' hA
      go_wp2_with fail
      obtain ⟨wo, rfl⟩ : ∃ wo : World, wo = wr := ⟨_, rfl⟩
      go_loopw [13] (fun n wq => ∃ i : Nat, a' + i ≤ b + h ∧ n = .int .i64 ((a' + i : Nat) : Int) ∧ TurnX w base j (.slice AV ks.length cV) ks (zerosD (putsD j.y.abs b e' (ks.map RecR.abs) ks.length) a' i) wq) (fun n _ => b + h - (intOf n).toNat)
      case atStart => exact ⟨0, by omega, rfl, T2⟩
      case round =>
        obtain ⟨i, hi, rfl, y2, t⟩ := hrel
        have gk := t.gkP hP
        have c2 : wr.cell? ⟨j.G, 2, none⟩ = some (.int .i64 (h : Int)) := gk.at_ rfl
        by_cases hlt : a' + i < b + h
        · have dec2 : decide (((a' + i : Nat) : Int) < (b : Int) + (h : Int)) = true := decide_eq_true (by omega)
          obtain ⟨t1, t2, t3, t4⟩ := t.lens
          have hp1 := puts_same j.y.abs b e' (ks.map RecR.abs) ks.length
          have hl1 : (zerosD (putsD j.y.abs b e' (ks.map RecR.abs) ks.length) a' i).last.length = j.y.lp.length := by
            have e : (zerosD (putsD j.y.abs b e' (ks.map RecR.abs) ks.length) a' i).last = (putsD j.y.abs b e' (ks.map RecR.abs) ks.length).last := rfl
            rw [e, hp1.1]; exact List.length_map _
          have hwl := puts_wl j.y.abs b e' (ks.map RecR.abs) ks.length (by rw [List.length_map]; omega)
          have hzw := zerosD_wait (putsD j.y.abs b e' (ks.map RecR.abs) ks.length) a' i
          have hjw : j.y.abs.wait.length = j.y.wp.length := by simp [Lay.abs]
          have hpe : pos j.y.abs.size (ks.map RecR.abs) ks.length = pos j.y.size (ks.map RecR.abs) ks.length := rfl
          obtain ⟨z1, z2⟩ := zerosD_next (d := putsD j.y.abs b e' (ks.map RecR.abs) ks.length) (a := a') (k := i) (sz := j.y.size) (by rw [hp1.2.2]; exact hB.off) (by rw [hp1.2.1]; rfl) (by rw [hp1.1]; have : j.y.abs.last.length = j.y.lp.length := List.length_map _; omega)
          have rb : ∀ (w9 : World), RB (w9.alloc (.cells (rep j.y.size (.int .u8 0)) 5)) (some ⟨w9.heap.size, 0, none⟩) (List.replicate j.y.size 0) := fun w9 => by
            have := RV.new w9 (List.replicate j.y.size (.int .u8 0)) 5 (0, 0)
            unfold RB
            rw [show cB (List.replicate j.y.size 0) = List.replicate j.y.size (.int .u8 0) by simp [cB, byteV]]
            exact this
          have bA : Below wr.heap.size wr (wr.drew.alloc (.cells (rep j.y.size (.int .u8 0)) 5)) := ((Below.refl _ _).drew).alloc (Nat.le_refl _) _
          have WC := write_at y2 ((a' + i : Nat) : Int) (List.replicate j.y.size 0) j.y.size (some ⟨wr.heap.size, 0, none⟩) j.y.size (wr.drew.alloc (.cells (rep j.y.size (.int .u8 0)) 5)) base (t.below bA).ok.dk (rb wr.drew) (by simp) (by omega) (by omega)
          rw [t.abs, z1, z2] at WC
          have HX := Lib.hid (fun w5 n => (t.below bA).next (w5 := w5) (S' := zerosD (putsD j.y.abs b e' (ks.map RecR.abs) ks.length) a' (i + 1)) n)
          clear t1 t2 t3 t4 hp1 hl1 hwl hzw hjw hpe z1 z2 rb
          have WC' : Calls Tryz.prog 114 #[.pointer (some ⟨y2.D, 0, none⟩), .int .i64 ((a' + i : Nat) : Int), .slice (some ⟨wr.heap.size, 0, none⟩) j.y.size j.y.size] ((wr.alloc (.cells (rep j.y.size (.int .u8 0)) 5)).drew) (RetErr (wr.drew.alloc (.cells (rep j.y.size (.int .u8 0)) 5)) base y2 0 (zerosD (putsD j.y.abs b e' (ks.map RecR.abs) ks.length) a' (i + 1))) := WC
          clear WC
          obtain ⟨N, hN⟩ : ∃ N : Nat, a' + i = N := ⟨_, rfl⟩
          rw [hN] at WC' dec2 ⊢
          have HN := Lib.hid hN
          clear hN hlt hi
          go_wp2_with fail
          have hNb : N < b + h := by have := of_decide_eq_true dec2; omega
          have HS : Hid (∀ wq, Blk wq j.G 168 #[.pointer (some ⟨y2.D, 0, none⟩), .int .i64 (f : Int), .int .i64 (h : Int), .int .i64 (j.y.size : Int), .int .i64 (u : Int), .int .i64 (ep : Int), .int .i64 j.at_, j.v] → (wq.cell? ⟨j.G, 0, none⟩ = some (.pointer (some ⟨y2.D, 0, none⟩)) ∧ wq.cell? ⟨j.G, 3, none⟩ = some (.int .i64 (j.y.size : Int)))) :=
            fun wq hq => ⟨hq.at_ rfl, hq.at_ rfl⟩
          have f0 := HS.out wr.drew gk
          have fa := HS.out ((wr.alloc (.cells (rep j.y.size (.int .u8 0)) 5)).drew) (gk.alloc _)
          have KB : Hid (∀ (w5 : World) (S : Dsk), Next (wr.drew.alloc (.cells (rep j.y.size (.int .u8 0)) 5)) base y2 S w5 → Blk w5 j.G 168 #[.pointer (some ⟨y2.D, 0, none⟩), .int .i64 (f : Int), .int .i64 (h : Int), .int .i64 (j.y.size : Int), .int .i64 (u : Int), .int .i64 (ep : Int), .int .i64 j.at_, j.v]) :=
            fun w5 S n => (t.keep bA (_k := 0) t.ok.gy gk.lt n).trans gk
          clear dec2 t c2
          go_region_held (fun wq => wq.cell? ⟨j.G, 0, none⟩ = some (.pointer (some ⟨y2.D, 0, none⟩)) ∧ wq.cell? ⟨j.G, 3, none⟩ = some (.int .i64 (j.y.size : Int))) (first | exact f0 | exact fa | exact f5) (first
            | (go_at_call 114; (with_reducible refine WC'.mono ?_); rintro _ w5 ⟨rfl, n5⟩; have f5 := HS.out w5 (KB.out w5 _ n5); have HXX := Lib.hid (HX.out w5 n5); clear n5))
          clear HS KB HX WC' fa f0 f5 bA gk
          go_wp2
          go_roundw
          case rel => exact ⟨i + 1, by have := HN.out; omega, by rw [← HN.out]; go_num, HXX.out⟩
          case measure => simp [intOf]; omega
        · obtain hi' : a' + i = b + h := by omega
          have dec2 : decide (((a' + i : Nat) : Int) < (b : Int) + (h : Int)) = false := decide_eq_false (by omega)
          obtain ⟨N, hN⟩ : ∃ N : Nat, a' + i = N := ⟨_, rfl⟩
          rw [hN] at dec2 ⊢
          have hNb : N ≤ 200000 := by omega
          have hrl : (ks.map RecR.abs).length = ks.length := List.length_map _
          have hpe : pos j.y.abs.size (ks.map RecR.abs) ks.length = pos j.y.size (ks.map RecR.abs) ks.length := rfl
          have hS : zerosD (putsD j.y.abs b e' (ks.map RecR.abs) ks.length) a' i = fillD j.y.abs b h e' (ks.map RecR.abs) := by
            unfold fillD
            rw [hrl, hpe, HA.out, show i = h - pos j.y.size (ks.map RecR.abs) ks.length by have := HA.out; omega]
          rw [hS] at t
          obtain ⟨p1, p2, p3⟩ := fill_same j.y.abs b h e' (ks.map RecR.abs)
          obtain ⟨q1, q2⟩ := head_put hB
          have hwl := puts_wl j.y.abs b e' (ks.map RecR.abs) ks.length (by rw [List.length_map]; omega)
          have hzw := zerosD_wait (putsD j.y.abs b e' (ks.map RecR.abs) ks.length) a' i
          have hjw : j.y.abs.wait.length = j.y.wp.length := by simp [Lay.abs]
          obtain ⟨t1, t2, t3, t4⟩ := t.lens
          have hwl2 : y2.wp.length ≤ 400000 := by rw [t3, ← hS, hzw]; omega
          have c0 : wr.cell? ⟨j.G, 0, none⟩ = some (.pointer (some ⟨y2.D, 0, none⟩)) := gk.at_ rfl
          have FC := flush_calls y2 wr base t.ok.dk (by omega)
          have f1 : y2.abs.flushE = 0 := by unfold DiskP.Dsk.flushE; rw [t.abs, p3, hB.off]; rfl
          have f2 : y2.abs.flushS = (fillD j.y.abs b h e' (ks.map RecR.abs)).flush := by unfold DiskP.Dsk.flushS; rw [t.abs, p3, hB.off]; rfl
          rw [f1, f2] at FC
          have TT := Lib.hid (fun w5 n => t.next (w5 := w5) (S' := (fillD j.y.abs b h e' (ks.map RecR.abs)).flush) n)
          have Q1 := Lib.hid q1
          have Q2 := Lib.hid q2
          have P3 := Lib.hid p3
          clear hN hlt hi hi' hrl hpe hS p1 p2 p3 q1 q2 hwl hzw hjw t1 t2 t3 t4 hwl2 f1 f2 t gk T2
          go_wp2_with fail
          refine FC.mono ?_
          clear FC c0
          rintro _ w5 ⟨rfl, n5⟩
          obtain ⟨y3, t⟩ := TT.out w5 n5
          clear TT n5
          have gk := t.gkP hP
          have c0 : w5.cell? ⟨j.G, 0, none⟩ = some (.pointer (some ⟨y3.D, 0, none⟩)) := gk.at_ rfl
          have T5 : Tab w5 := hT.far t.fn.1 (fun hk => by
            rcases hk with hk | hk
            · have := hJ.bG; omega
            · have := (hJ.dk.foot_lt hk).1; omega)
          have hs5 : w.heap.size ≤ w5.heap.size := t.fn.1.size
          obtain ⟨_, _, t3, _⟩ := t.lens
          have hw3 : y3.wp.length = 0 := by rw [t3]; rfl
          have PC : Calls Tryz.prog 66 #[.pointer (some ⟨y3.D, 0, none⟩), .int .i64 (b : Int), .int .u8 72, .int .i64 (e' : Int), .slice none 0 0] w5 _ := pput_calls y3 (b : Int) 72 (e' : Int) [] none 0 w5 base t.ok.dk T5 (by omega) RVF.nil (Nat.le_refl _) (by omega) (by omega) hg
          rw [t.abs, Q2.out, show (List.length ([] : List UInt8)) = 0 from rfl, Q1.out] at PC
          have TT := Lib.hid (fun w6 n => t.next (w5 := w6) (S' := putD (fillD j.y.abs b h e' (ks.map RecR.abs)).flush b 72 (e' : Int) [] 1) n)
          generalize putN (fillD j.y.abs b h e' (ks.map RecR.abs)).flush (b : Int) 72 0 = NN at PC
          clear t gk t3 hw3 T5 hs5 Q1 Q2
          go_wp2_with fail
          refine PC.mono ?_
          clear PC c0
          rintro _ w6 ⟨rfl, n6⟩
          obtain ⟨y4, t⟩ := TT.out w6 n6
          clear TT n6
          have gk := t.gkP hP
          have c0 : w6.cell? ⟨j.G, 0, none⟩ = some (.pointer (some ⟨y4.D, 0, none⟩)) := gk.at_ rfl
          obtain ⟨_, _, t3, _⟩ := t.lens
          have hw4 : y4.wp.length = 1 := by rw [t3]; rfl
          have FC := flush_calls y4 w6 base t.ok.dk (by omega)
          have ho4 : (putD (fillD j.y.abs b h e' (ks.map RecR.abs)).flush b 72 (e' : Int) [] 1).off = false := P3.out.trans hB.off
          have f1 : y4.abs.flushE = 0 := by unfold DiskP.Dsk.flushE; rw [t.abs, ho4]; rfl
          have f2 : y4.abs.flushS = turnD j.y.abs b h e' (ks.map RecR.abs) := by unfold DiskP.Dsk.flushS; rw [t.abs, ho4]; rfl
          rw [f1, f2] at FC
          have TT := Lib.hid (fun w7 n => t.next (w5 := w7) (S' := turnD j.y.abs b h e' (ks.map RecR.abs)) n)
          clear t gk t3 hw4 ho4 f1 f2 P3
          go_wp2_with fail
          refine FC.mono ?_
          clear FC c0
          rintro _ w7 ⟨rfl, n7⟩
          obtain ⟨y5, t⟩ := TT.out w7 n7
          clear TT n7
          have gk := t.gkP hP
          have c4 : w7.cell? ⟨j.G, 4, none⟩ = some (.int .i64 (u : Int)) := gk.at_ rfl
          have c5 : w7.cell? ⟨j.G, 5, none⟩ = some (.int .i64 (ep : Int)) := gk.at_ rfl
          have c6 : w7.cell? ⟨j.G, 6, none⟩ = some (.int .i64 j.at_) := gk.at_ rfl
          have c7 : w7.cell? ⟨j.G, 7, none⟩ = some j.v := gk.at_ rfl
          have z4 := gk.frozen 4
          have z5 := gk.frozen 5
          have z6 := gk.frozen 6
          have z7 := gk.frozen 7
          have hv1 : j.v.cells.size = 1 := by obtain ⟨A, c, e, _, _⟩ := own_form hJ.kp.row.own; rw [e]; rfl
          have HF := Lib.hid (t.storedAt hP a' u' e')
          clear t gk
          go_wp2
          go_ret
          exact HF.out _ HA.out
end Go.Proofs.YtendnkklbeiegaaGreatDoor
