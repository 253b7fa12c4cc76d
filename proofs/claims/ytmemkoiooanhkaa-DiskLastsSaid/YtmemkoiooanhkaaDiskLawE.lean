/-
  The walk of the statement DiskLasts: it returns true and changes nothing that was there.
-/
import Derived.Test.YtmemkoiooanhkaaDiskLastsPlain
import Derived.Test.YtmemkoiooanhkaaDiskActs
namespace Go.Proofs.Ytmemkoiooanhkaa
open Go.RowKit DiskP

/-- The disk and what is wanted of it, in the midst of the acts. -/
def Lasting (w0 : World) (D g k : Nat) (wr : World) : Prop :=
  ∃ y want, DiskOK wr w0.heap.size y ∧ y.D = D ∧ LInv y.abs want ∧ Blk wr g 29 (cI want).toArray ∧ ¬ y.foot g ∧ y.wp.length ≤ k ∧ Below w0.heap.size w0 wr
theorem n6 (x : Int) : ∃ n : Nat, n < 6 ∧ Hid (wrap64 ((IntKind.u64.wrap x).tmod 6) = (n : Int)) := by
  have e : IntKind.u64.wrap x = x % 18446744073709551616 := by simp [IntKind.wrap, IntKind.signed, IntKind.bits]
  have h0 : 0 ≤ x % 18446744073709551616 := Int.emod_nonneg _ (by decide)
  refine ⟨((x % 18446744073709551616) % 6).toNat, by omega, ?_⟩
  show _ = _
  rw [e, Int.tmod_eq_emod_of_nonneg h0]
  unfold wrap64
  omega
theorem LInv.bnd {d : Dsk} {want : List Int} (h : LInv d want) {i : Nat} (hi : i < 6) : ∃ v, want[i]? = some v ∧ 0 ≤ v ∧ v ≤ 1255 := by
  obtain ⟨x, hx | hx⟩ := h.at_ i hi
  · exact ⟨_, hx.1, by omega, by have := x.toNat_lt; omega⟩
  · exact ⟨_, hx.1, by omega, by have := x.toNat_lt; omega⟩
theorem List.set_getElem?_self' {α : Type} {l : List α} {j : Nat} {v : α} (h : l[j]? = some v) : l.set j v = l := by
  obtain ⟨hj, he⟩ := List.getElem?_eq_some_iff.1 h
  rw [← he, List.set_getElem_self]
theorem half_get (want : List Int) {j : Nat} (hj : j < want.length) {v : Int} (hv : want[j]? = some v) : ((want.take j).map sub1000 ++ want.drop j)[j]? = some v := by
  rw [List.getElem?_append_right (by simp; omega)]
  simp [hv, Nat.min_eq_left (Nat.le_of_lt hj)]
theorem half_step (want : List Int) {j : Nat} {v : Int} (hv : want[j]? = some v) : (want.take (j + 1)).map sub1000 ++ want.drop (j + 1) = ((want.take j).map sub1000 ++ want.drop j).set j (sub1000 v) := by
  obtain ⟨hj, he⟩ := List.getElem?_eq_some_iff.1 hv
  rw [List.set_append_right _ _ (by simp; omega), List.drop_eq_getElem_cons hj, List.take_succ_eq_append_getElem hj, he]
  simp [Nat.min_eq_left (Nat.le_of_lt hj)]
theorem len6 {r : List Int} (h : r.length = 6) : ∃ a b c d e f, r = [a, b, c, d, e, f] := by
  match r, h with
  | [a, b, c, d, e, f], _ => exact ⟨a, b, c, d, e, f, rfl⟩
theorem index6 {v0 v1 v2 v3 v4 v5 v : Int} {j : Nat} (hj : j < 6) (hv : [v0, v1, v2, v3, v4, v5][j]? = some v) (w : World) :
    (Instr.index 29 (.agg #[.int .i64 v0, .int .i64 v1, .int .i64 v2, .int .i64 v3, .int .i64 v4, .int .i64 v5]) (.int .i64 (j : Int))).run Try.prog w = .ok (.int .i64 v) w := by
  have : j = 0 ∨ j = 1 ∨ j = 2 ∨ j = 3 ∨ j = 4 ∨ j = 5 := by omega
  rcases this with rfl | rfl | rfl | rfl | rfl | rfl
  all_goals
    simp at hv
    subst hv
    rfl
set_option maxHeartbeats 1600000 in
theorem diskLasts_yes (l : List ActR) (A : Option Addr) (cap : Nat) (keep : List Bool) (B : Option Addr) (capB : Nat) (torn : Int) (w : World) (hR : RV w A (l.flatMap ActR.cells)) (hl : l.length ≤ 30) (hA : ∀ a ∈ l, ActOK w a)
    (hK : RV w B (keep.map Value.bool)) (hk : keep.length ≤ 60) :
    Calls Try.prog 3 #[.slice A l.length cap, .slice B keep.length capB, .int .i64 torn] w fun e w' => e = .returned (.bool true) ∧ Below w.heap.size w w' := by
  have d1 : decide (30 < (l.length : Int)) = false := by simp; omega
  have d2 : decide (60 < (keep.length : Int)) = false := by simp; omega
  go_enter Try.func3, Try.ntmps3
  go_wp2_with fail
  refine (alive_calls w).mono ?_
  rintro e w0 ⟨rfl, b0⟩
  go_wp2_with fail
  refine (new_calls 6 16 w0 (by omega) (by omega) (by omega) (by omega)).mono ?_
  rintro e w1 ⟨y1, rfl, h1, a1, _, _, b1⟩
  go_wp2_with fail
  have L0 : Lasting w0 y1.D w1.heap.size 0 (w1.alloc (.cells #[.int .i64 0, .int .i64 0, .int .i64 0, .int .i64 0, .int .i64 0, .int .i64 0] 29)) :=
    ⟨y1, List.replicate 6 0, h1.below ((Below.refl _ _).alloc (Nat.le_refl _) _), rfl, by rw [a1]; exact linv_new, Blk.new w1 _ _, fun hf => by have := (h1.foot_lt hf).2; omega, by rw [wlen, a1]; simp [newD], b1.alloc b1.size _⟩
  have hgw := b1.size
  clear h1 a1 b1
  go_loopw [11, 12, 13, 34] (fun _ _ _ i wr => ∃ k : Nat, k ≤ l.length ∧ i = .int .i64 k ∧ Lasting w0 y1.D w1.heap.size k wr) (fun _ _ _ i _ => l.length - (intOf i).toNat)
  case atStart => exact ⟨0, by omega, rfl, L0⟩
  case round =>
    obtain ⟨k, hk, rfl, y, want, h, hD, inv, bk, nf, hwp, bel⟩ := hrel
    by_cases hlt : k < l.length
    · obtain ⟨a, ha⟩ : ∃ a, l[k]? = some a := ⟨_, List.getElem?_eq_getElem hlt⟩
      have haok := hA a (List.mem_of_getElem? ha)
      obtain ⟨b, off, rfl, hb, hc⟩ := hR (by intro e; have := acts_get l k 0 (by omega); rw [e, ha] at this; simp [ActR.cells] at this)
      have hcc : ∀ i v, i < 5 → a.cells[i]? = some v → wr.cell? ⟨b, off + (k * 5 + i), none⟩ = some v := by
        intro i v hi hv
        have hbw : Below w.heap.size w wr := b0.trans (bel.mono b0.size)
        rw [hbw.cell (p := ⟨b, off + (k * 5 + i), none⟩) hb]
        exact hc _ _ (by rw [acts_get l k i hi, ha]; exact hv)
      have q0 : wr.cell? ⟨b, off + k * 5, none⟩ = some (.int .i64 a.kind) := hcc 0 _ (by omega) rfl
      have q1 : wr.cell? ⟨b, off + k * 5 + 1, none⟩ = some (.int .i64 a.n) := by rw [Nat.add_assoc]; exact hcc 1 _ (by omega) rfl
      have q2 : wr.cell? ⟨b, off + k * 5 + 2, none⟩ = some (.int .i64 a.torn) := by rw [Nat.add_assoc]; exact hcc 2 _ (by omega) rfl
      have q3 : wr.cell? ⟨b, off + k * 5 + 3, none⟩ = some (.int .u8 (a.b.toNat : Int)) := by rw [Nat.add_assoc]; exact hcc 3 _ (by omega) rfl
      have q4 : wr.cell? ⟨b, off + k * 5 + 4, none⟩ = some (.slice a.ka a.keep.length a.kc) := by rw [Nat.add_assoc]; exact hcc 4 _ (by omega) rfl
      have hdec : decide ((k : Int) < (l.length : Int)) = true := by simp; omega
      clear hcc hc
      obtain ⟨nn, hnn, HN⟩ := n6 a.n
      have glt : w1.heap.size < wr.heap.size := bk.lt
      by_cases hkind : a.kind = 1
      · rw [hkind] at q0
        go_wp2_with fail
        rw [HN.out]
        have F := flush_calls y (wr.alloc (.cells #[.int .i64 1, .int .i64 a.n, .int .i64 a.torn, .int .u8 (a.b.toNat : Int), .slice a.ka a.keep.length a.kc] 31)) w0.heap.size (h.below ((Below.refl _ _).alloc (Nat.le_refl _) _)) (by omega)
        rw [hD] at F
        refine F.mono ?_
        clear F
        rintro e w2 ⟨rfl, y2, h2, a2, d2, k2, f2⟩
        rw [inv.flushE.2] at a2
        rw [inv.flushE.1]
        have hwp2 : y2.wp.length ≤ k + 1 := by rw [wlen, a2]; simp [Dsk.flush]
        have bk2 : Blk w2 w1.heap.size 29 (cI want).toArray := (k2.block _ (by simp; omega) nf).trans (bk.alloc _)
        have nf2 : ¬ y2.foot w1.heap.size := fun hf => by
          rcases f2 _ hf with h3 | h3
          · exact nf h3
          · simp at h3; omega
        have bel2 : Below w0.heap.size w0 w2 := (bel.alloc bel.size _).trans (k2.below (fun j _ hj => (h.foot_lt hj).1) (by simp; exact Nat.le_succ_of_le bel.size))
        have inv2 := inv.flush
        rw [← a2] at inv2
        have bk3 : Blk w2 w1.heap.size 29 (cI ((want.take 0).map sub1000 ++ want.drop 0)).toArray := by simpa using bk2
        have gw : w0.heap.size ≤ w1.heap.size := hgw
        clear k2 f2 bk bk2 bel nf h q0 q1 q2 q3 q4 HN hnn
        go_wp2
        go_loopw [13, 48] (fun _ i wx => ∃ j : Nat, j ≤ 6 ∧ i = .int .i64 j ∧ DiskOK wx w0.heap.size y2 ∧ Blk wx w1.heap.size 29 (cI ((want.take j).map sub1000 ++ want.drop j)).toArray ∧ Below w0.heap.size w0 wx) (fun _ i _ => 6 - (intOf i).toNat)
        case atStart => exact ⟨0, by omega, rfl, h2, bk3, bel2⟩
        case round =>
          obtain ⟨j, hj, rfl, h4, bk4, bel4⟩ := hrel
          by_cases hj6 : j < 6
          · obtain ⟨v, hv, v0, v1⟩ := inv.bnd hj6
            have hjl : j < want.length := by rw [inv.wl]; exact hj6
            have cj : wr.cell? ⟨w1.heap.size, j, none⟩ = some (.int .i64 v) := bk4.at_ (by
              have := half_get want hjl hv
              simp only [cI, List.getElem?_toArray, List.getElem?_map, this]
              rfl)
            have zj := bk4.frozen j
            have dj : decide ((j : Int) < 6) = true := by simp; omega
            have st : ∀ u : Int, sub1000 v = u → Blk (wr.setCell ⟨w1.heap.size, j, none⟩ (.int .i64 u)) w1.heap.size 29 (cI ((want.take (j + 1)).map sub1000 ++ want.drop (j + 1))).toArray := by
              intro u hu
              have := bk4.set_ j (.int .i64 u)
              rw [half_step want hv, hu]
              simpa [cI, intV] using this
            by_cases hv1 : 1000 ≤ v
            · have dv : decide (1000 ≤ v) = true := by simpa using hv1
              have HS := Lib.hid (st (v - 1000) (if_pos hv1))
              have H4 := Lib.hid (h4.away (p := ⟨w1.heap.size, j, none⟩) nf2 (.int .i64 (v - 1000)))
              clear st bk4 h4
              go_wp2
              go_roundw
              case rel => exact ⟨j + 1, by omega, by go_num, H4.out, HS.out, bel4.setCell gw _⟩
              case measure => simp [intOf]; omega
            · have dv : decide (1000 ≤ v) = false := by simpa using hv1
              have HS : Hid (Blk wr w1.heap.size 29 (cI ((want.take (j + 1)).map sub1000 ++ want.drop (j + 1))).toArray) := by
                show Blk _ _ _ _
                rw [half_step want hv, show sub1000 v = v from if_neg hv1, show ((want.take j).map sub1000 ++ want.drop j).set j v = (want.take j).map sub1000 ++ want.drop j from List.set_getElem?_self' (half_get want hjl hv)]
                exact bk4
              clear st bk4
              go_wp2
              go_roundw
              case rel => exact ⟨j + 1, by omega, by go_num, h4, HS.out, bel4⟩
              case measure => simp [intOf]; omega
          · obtain rfl : j = 6 := by omega
            have bk5 : Blk wr w1.heap.size 29 (cI (want.map sub1000)).toArray := by
              rw [← inv.wl] at bk4
              simpa using bk4
            rw [show ((6 : Nat) : Int) = 6 from rfl]
            clear bk4
            go_wp2
            go_roundw
            case rel => exact ⟨k + 1, by omega, by go_num, y2, _, h4, d2.trans hD, inv2, bk5, nf2, hwp2, bel4⟩
            case measure => simp [intOf]; omega
      · have hd3 : (a.kind == 1) = false := by simpa using hkind
        go_wp2_with fail
        rw [HN.out]
        refine (filled_calls 16 a.b _ (by omega)).mono ?_
        rintro e w2 ⟨g2, rfl, o2, b2⟩
        rw [show (List.replicate 16 a.b).length = 16 by simp] at o2
        rw [show (List.replicate 16 a.b).length = 16 by simp]
        have h2 := (h.below ((Below.refl _ _).alloc (Nat.le_refl _) (.cells #[.int .i64 a.kind, .int .i64 a.n, .int .i64 a.torn, .int .u8 (a.b.toNat : Int), .slice a.ka a.keep.length a.kc] 31))).below b2
        have ab2 : Blk w2 wr.heap.size 31 #[.int .i64 a.kind, .int .i64 a.n, .int .i64 a.torn, .int .u8 (a.b.toNat : Int), .slice a.ka a.keep.length a.kc] := (Blk.new wr _ _).below b2 (by simp)
        have bk2 : Blk w2 w1.heap.size 29 (cI want).toArray := (bk.alloc _).below b2 (by simp; omega)
        have s2 : wr.heap.size < w2.heap.size := ab2.lt
        have nfa : ¬ y.foot wr.heap.size := fun hf => by have := (h.foot_lt hf).2; omega
        have bel2 : Below w0.heap.size w0 w2 := (bel.alloc bel.size _).trans (b2.mono (by simp; exact Nat.le_succ_of_le bel.size))
        have F := write_at y (nn : Int) (List.replicate 16 a.b) 16 _ 16 w2 w0.heap.size h2 (RV.of_own o2) (by simp) (by omega) (by omega)
        rw [hD] at F
        clear b2 o2
        go_wp2_with fail
        try rw [HN.out]
        refine F.mono ?_
        clear F
        rintro e w3 ⟨rfl, y3, h3, a3, d3, k3, f3⟩
        rw [(inv.writeE hnn a.b).2] at a3
        rw [(inv.writeE hnn a.b).1]
        have hwp3 : y3.wp.length ≤ k + 1 := by rw [wlen, a3]; simp [Dsk.write, ← wlen]; omega
        have ab3 : Blk w3 wr.heap.size 31 _ := (k3.block _ s2 nfa).trans ab2
        have bk3 : Blk w3 w1.heap.size 29 (cI want).toArray := (k3.block _ bk2.lt nf).trans bk2
        have nf3 : ¬ y3.foot w1.heap.size := fun hf => by
          rcases f3 _ hf with h4 | h4
          · exact nf h4
          · omega
        have bel3 : Below w0.heap.size w0 w3 := bel2.trans (k3.below (fun j _ hj => (h.foot_lt hj).1) bel2.size)
        have inv3 := inv.write hnn a.b
        rw [← a3] at inv3
        have e3 := ab3.at_ (i := 3) rfl
        obtain ⟨v, hv, _, _⟩ := inv.bnd hnn
        have cn : w3.cell? ⟨w1.heap.size, nn, none⟩ = some (.int .i64 v) := bk3.at_ (by
          simp only [cI, List.getElem?_toArray, List.getElem?_map, hv]
          rfl)
        have zn := bk3.frozen nn
        have HS : Hid (Blk (w3.setCell ⟨w1.heap.size, nn, none⟩ (.int .i64 (1000 + (a.b.toNat : Int)))) w1.heap.size 29 (cI (want.set nn (1000 + (a.b.toNat : Int)))).toArray) := by
          have := bk3.set_ nn (.int .i64 (1000 + (a.b.toNat : Int)))
          show Blk _ _ _ _
          simpa [cI, intV] using this
        have H3 := Lib.hid (h3.away (p := ⟨w1.heap.size, nn, none⟩) nf3 (.int .i64 (1000 + (a.b.toNat : Int))))
        have gw : w0.heap.size ≤ w1.heap.size := hgw
        have hbb : a.b.toNat < 256 := a.b.toNat_lt
        have dn : decide ((nn : Int) < 6) = true := by simp; omega
        clear k3 f3 bk bk2 bk3 bel nf h q0 q1 q2 q3 q4 h3 ab2 ab3 bel2 h2 s2 nfa HN
        go_wp2
        go_roundw
        case rel => exact ⟨k + 1, by omega, by go_num, y3, _, H3.out, d3.trans hD, inv3, HS.out, nf3, hwp3, bel3.setCell gw _⟩
        case measure => simp [intOf]; omega
    · obtain rfl : k = l.length := by omega
      have hKF : RVF wr y.foot B (cL keep) := by
        intro hne
        obtain ⟨b, off, e, hb, hc⟩ := hK hne
        have hbw : Below w.heap.size w wr := b0.trans (bel.mono b0.size)
        exact ⟨b, off, e, Nat.lt_of_lt_of_le hb hbw.size, fun hf => by have := (h.foot_lt hf).1; have := b0.size; omega, fun j v hj => by rw [hbw.cell (p := ⟨b, off + j, none⟩) hb]; exact hc j v hj⟩
      have C := cut_calls y keep B capB torn wr w0.heap.size h (by omega) (by omega) hKF
      rw [hD] at C
      clear hR hA hK
      go_wp2_with fail
      refine C.mono ?_
      clear C
      rintro e w2 ⟨rfl, y2, h2, a2, d2, k2, f2⟩
      have bel2 := bel.trans (k2.below (fun j _ hj => (h.foot_lt hj).1) bel.size)
      have bk2 : Blk w2 w1.heap.size 29 (cI want).toArray := (k2.block _ bk.lt nf).trans bk
      have nf2 : ¬ y2.foot w1.heap.size := fun hf => by
        rcases f2 _ hf with h4 | h4
        · exact nf h4
        · have := bk.lt; omega
      have O := on_next y2 w2 w0.heap.size h2
      rw [d2, hD] at O
      go_wp2_with fail
      refine O.mono ?_
      clear O
      rintro e w3 ⟨rfl, y3, h3, a3, d3, k3, f3⟩
      rw [a2] at a3
      have bel3 := bel2.trans (k3.below (fun j _ hj => (h2.foot_lt hj).1) bel2.size)
      have bk3 : Blk w3 w1.heap.size 29 (cI want).toArray := (k3.block _ bk2.lt nf2).trans bk2
      have d3' : y3.D = y1.D := d3.trans (d2.trans hD)
      obtain ⟨x1, x2⟩ := inv.cut keep torn
      rw [← a3] at x1 x2
      have W := waits_calls y3 w3 w0.heap.size h3
      rw [d3', wlen, x1] at W
      go_wp2_with fail
      refine W.mono ?_
      clear W
      rintro e w' ⟨rfl, rfl⟩
      have hw6 : want.length = 6 := inv.wl
      clear h h2 k2 k3 f2 f3 bk bk2 nf nf2 bel bel2 x1 a2 a3 inv
      obtain ⟨v0, v1, v2, v3, v4, v5, rfl⟩ := len6 hw6
      have m0 : w3.cell? ⟨w1.heap.size, 0, none⟩ = some (.int .i64 v0) := bk3.at_ rfl
      have m1 : w3.cell? ⟨w1.heap.size, 1, none⟩ = some (.int .i64 v1) := bk3.at_ rfl
      have m2 : w3.cell? ⟨w1.heap.size, 2, none⟩ = some (.int .i64 v2) := bk3.at_ rfl
      have m3 : w3.cell? ⟨w1.heap.size, 3, none⟩ = some (.int .i64 v3) := bk3.at_ rfl
      have m4 : w3.cell? ⟨w1.heap.size, 4, none⟩ = some (.int .i64 v4) := bk3.at_ rfl
      have m5 : w3.cell? ⟨w1.heap.size, 5, none⟩ = some (.int .i64 v5) := bk3.at_ rfl
      clear bk3 hw6
      rw [show (([] : List (Nat × Sect)).length : Int) = 0 from rfl]
      go_wp2
      clear m0 m1 m2 m3 m4 m5
      go_loopw [14, 15, 16, 17, 85] (fun _ _ _ _ i wx => ∃ j : Nat, j ≤ 6 ∧ i = .int .i64 j ∧ DiskOK wx w0.heap.size y3 ∧ Below w0.heap.size w0 wx) (fun _ _ _ _ i _ => 6 - (intOf i).toNat)
      case atStart => exact ⟨0, by omega, rfl, h3, bel3⟩
      case round =>
        obtain ⟨j, hj, rfl, h4, bel4⟩ := hrel
        by_cases hj6 : j < 6
        · obtain ⟨v, hv⟩ : ∃ v, [v0, v1, v2, v3, v4, v5][j]? = some v := ⟨_, List.getElem?_eq_getElem (by simpa using hj6)⟩
          obtain ⟨z1, z2⟩ := x2 j v hv
          have R := read_calls y3 (j : Int) wr w0.heap.size h4
          rw [d3'] at R
          by_cases hv1 : v < 1000
          · obtain ⟨z3, x, rfl, z4⟩ := z2 hv1
            have RR : Calls Try.prog 17 #[.pointer (some ⟨y1.D, 0, none⟩), .int .i64 (j : Int)] wr fun e w' => ∃ b off c, e = .returned (.tuple #[.slice (some ⟨b, off, none⟩) 16 c, .int .i64 0]) ∧ w'.cell? ⟨b, off, none⟩ = some (.int .u8 (x.toNat : Int)) ∧ w'.cell? ⟨b, off + 15, none⟩ = some (.int .u8 (x.toNat : Int)) ∧ Below wr.heap.size wr w' := by
              refine R.mono ?_
              rintro e w' ⟨u, rfl, o, bb⟩
              rw [z4, show (List.replicate 16 x).length = 16 by simp] at o
              obtain ⟨A5, c5, rfl, _, _⟩ := own_form o
              obtain ⟨b, off, rfl, _, hc⟩ := rb_cell (RV.of_own o) (by omega)
              exact ⟨b, off, c5, by rw [z3], hc 0 (by omega), hc 15 (by omega), bb⟩
            have dv : decide ((x.toNat : Int) < 1000) = true := by simpa using hv1
            have hx : x.toNat < 256 := x.toNat_lt
            clear R z1 z2 z3 z4 x2 hv1
            have hix := index6 hj6 hv
            have dj : decide ((j : Int) < 6) = true := by simp; omega
            clear hv
            all_goals
              go_wp2_with fail
              refine RR.mono ?_
              rintro e w5 ⟨b, off, c, rfl, r1, r2, b5⟩
              have h5 := h4.below b5
              have bel5 := bel4.trans (b5.mono bel4.size)
              clear RR h4 bel4 b5 hix dj
              go_wp2
              go_roundw
              case rel => exact ⟨j + 1, by omega, by go_num, h5, bel5⟩
              case measure => simp [intOf]; omega
          · have dv : decide (v < 1000) = false := by simpa using hv1
            have RR : ∃ E : Int, (E = 0 ∨ E = 9) ∧ Calls Try.prog 17 #[.pointer (some ⟨y1.D, 0, none⟩), .int .i64 (j : Int)] wr fun e w' => ∃ A n c, e = .returned (.tuple #[.slice A n c, .int .i64 E]) ∧ Below wr.heap.size wr w' := by
              refine ⟨_, z1, R.mono ?_⟩
              rintro e w' ⟨u, rfl, o, bb⟩
              obtain ⟨A5, c5, rfl, _, _⟩ := own_form o
              exact ⟨_, _, _, rfl, bb⟩
            clear R z1 z2 x2 hv1
            obtain ⟨E, hE, RR⟩ := RR
            have hix := index6 hj6 hv
            have dj : decide ((j : Int) < 6) = true := by simp; omega
            clear hv
            rcases hE with rfl | rfl
            all_goals
              go_wp2_with fail
              refine RR.mono ?_
              rintro e w5 ⟨A5, n5, c, rfl, b5⟩
              have h5 := h4.below b5
              have bel5 := bel4.trans (b5.mono bel4.size)
              clear RR h4 bel4 b5
              go_wp2
              go_roundw
              case rel => exact ⟨j + 1, by omega, by go_num, h5, bel5⟩
              case measure => simp [intOf]; omega
        · obtain rfl : j = 6 := by omega
          rw [show ((6 : Nat) : Int) = 6 from rfl]
          go_wp2
          go_ret
          exact ⟨rfl, b0.trans (bel4.mono b0.size)⟩
theorem diskLasts_no (A : Option Addr) (n cap : Nat) (B : Option Addr) (m capB : Nat) (torn : Int) (w : World) (_hn : n ≤ 9223372036854775807) (_hm : m ≤ 9223372036854775807) (hno : 30 < n ∨ 60 < m) :
    Calls Try.prog 3 #[.slice A n cap, .slice B m capB, .int .i64 torn] w fun e w' => e = .returned (.bool true) ∧ Below w.heap.size w w' := by
  by_cases h : 30 < n
  · have d1 : decide (30 < (n : Int)) = true := by simp; omega
    go_enter Try.func3, Try.ntmps3
    go_wp2_with fail
    refine (alive_calls w).mono ?_
    rintro e w0 ⟨rfl, b0⟩
    go_wp2
    go_ret
    exact ⟨rfl, b0⟩
  · have d1 : decide (30 < (n : Int)) = false := by simp; omega
    have d2 : decide (60 < (m : Int)) = true := by simp; omega
    go_enter Try.func3, Try.ntmps3
    go_wp2_with fail
    refine (alive_calls w).mono ?_
    rintro e w0 ⟨rfl, b0⟩
    go_wp2
    go_ret
    exact ⟨rfl, b0⟩
theorem diskLasts_walk (l : List ActR) (A : Option Addr) (cap : Nat) (keep : List Bool) (B : Option Addr) (capB : Nat) (torn : Int) (w : World) (hR : RV w A (l.flatMap ActR.cells)) (hl : l.length ≤ 9223372036854775807) (hA : ∀ a ∈ l, ActOK w a)
    (hK : RV w B (keep.map Value.bool)) (hk : keep.length ≤ 9223372036854775807) :
    Calls Try.prog 3 #[.slice A l.length cap, .slice B keep.length capB, .int .i64 torn] w fun e w' => e = .returned (.bool true) ∧ Below w.heap.size w w' := by
  by_cases h : 30 < l.length ∨ 60 < keep.length
  · exact diskLasts_no A l.length cap B keep.length capB torn w hl hk h
  · exact diskLasts_yes l A cap keep B capB torn w hR (by omega) hA hK (by omega)
end Go.Proofs.Ytmemkoiooanhkaa
