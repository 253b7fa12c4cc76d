/-
  The walk of a map of free sectors' Give, one sector.
-/
import Derived.Test.YtendnkklbeiegaaGreatDoorExtWalk
import Derived.Deep.CutRange
namespace Go.Proofs.YtendnkklbeiegaaGreatDoor
open Go.RowKit ExtP

theorem bel_drew {B : Nat} {a w : World} (h : Below B a w) : Below B a w.drew := ⟨h.os, h.tape, h.output, h.size, h.block⟩
/-- What Give's walk knows in every world behind the call. -/
def GiveG (w : World) (x : XMap) (g c : Nat) : Prop := ∀ w', Below w.heap.size w w' → w'.cell? ⟨x.M, 2, none⟩ = some (.slice (some ⟨g, 0, none⟩) x.fs.length c) ∧ w'.frozen? ⟨x.M, 2, none⟩ = false ∧
  (∀ v, RV w' (if c = v then some ⟨g, 0, none⟩ else some ⟨g, v * 2, none⟩) (eC (x.fs.drop v))) ∧ (∀ u j k, (eC (x.fs.take u))[j]? = some k → w'.cell? ((⟨g, 0, none⟩ : Addr).add j) = some k) ∧
  ∀ k f, x.fs[k]? = some f → w'.cell? ⟨g, k * 2, none⟩ = some (.int .i64 (f.1 : Int)) ∧ w'.cell? ⟨g, k * 2 + 1, none⟩ = some (.int .i64 (f.2 : Int))
theorem ExtOK.giveG {w : World} {base lo hi : Nat} {x : XMap} {Fr : Nat → Prop} (h : ExtOK w base lo hi x Fr) (hne : 0 < x.fs.length) : ∃ g c, x.v = .slice (some ⟨g, 0, none⟩) x.fs.length c ∧ g < w.heap.size ∧ x.fs.length ≤ c ∧ GiveG w x g c := by
  obtain ⟨g, c, hv, hg, _, _⟩ := h.at_ (List.getElem?_eq_getElem hne)
  have hnc : x.fs.length ≤ c := by obtain ⟨A', c', hv', h3, _⟩ := h.form; rw [hv] at hv'; injection hv' with _ _ e; omega
  refine ⟨g, c, hv, hg, hnc, fun w' b => ?_⟩
  have hb := h.below b
  have gk' := hb.mk_
  rw [hv] at gk'
  have row' := hb.row
  rw [hv] at row'
  refine ⟨gk'.at_ rfl, gk'.frozen 2, fun v hne' => ?_, fun u j k hk => ?_, fun k f hk => ?_⟩
  · have hd : v < x.fs.length := by
      rcases Nat.lt_or_ge v x.fs.length with h1 | h1
      · exact h1
      · exfalso; rw [List.drop_eq_nil_of_le h1] at hne'; exact hne' rfl
    refine ⟨g, v * 2, by rw [if_neg (by omega)], (Nat.lt_of_lt_of_le hg b.size), fun j u hu => ?_⟩
    rw [eC_drop, List.getElem?_drop] at hu
    have := row'.cells (g := g) rfl _ _ hu
    rw [add_zero_off] at this
    exact this
  · rw [eC_take, List.getElem?_take] at hk
    split at hk
    · exact row'.cells (g := g) rfl _ _ hk
    · cases hk
  · obtain ⟨g', c', hv', _, e0, e1⟩ := hb.at_ hk
    rw [hv] at hv'
    injection hv' with q1 _ _
    injection q1 with q1
    injection q1 with q1 _
    subst q1
    exact ⟨e0, e1⟩
/-- What lies ahead of a sector that is given back: so the stretch begins at A, in the place u. -/
def GiveU (fs : List Ex) (a i u A : Nat) : Prop := (u = i ∧ A = a ∧ ∀ k x, k + 1 = i → fs[k]? = some x → x.1 + x.2 < a) ∨ (∃ x, u + 1 = i ∧ fs[u]? = some x ∧ x.1 + x.2 = a ∧ A = x.1)
def GiveV (fs : List Ex) (a i v A L : Nat) : Prop := (v = i ∧ A + L = a + 1 ∧ ∀ y, fs[i]? = some y → a + 1 < y.1) ∨ (∃ y, v = i + 1 ∧ fs[i]? = some y ∧ y.1 = a + 1 ∧ A + L = y.1 + y.2)
set_option maxHeartbeats 3200000 in
set_option maxRecDepth 100000 in
theorem xGive_calls (x : XMap) (a lo hi : Nat) (Fr : Nat → Prop) (w : World) (base : Nat) (h : ExtOK w base lo hi x Fr) (hlo : lo ≤ a) (hhi : a < hi) (hfr : ¬ Fr a) (hlen : ∃ s, Fr s) :
    Calls Tryz.prog 67 #[.pointer (some ⟨x.M, 0, none⟩), .agg #[.int .i64 (a : Int), .int .i64 1]] w (RetNX w base lo hi x (fun s => Fr s ∨ s = a) (.int .i64 0)) := by
  have h6 := h.h6
  have hn := h.len
  have hne : 0 < x.fs.length := by
    obtain ⟨s, hs⟩ := hlen
    obtain ⟨y, hy, _⟩ := (h.fr s).2 hs
    exact List.length_pos_of_mem hy
  obtain ⟨g, c, hv, hg, hnc, HGz⟩ := h.giveG hne
  have HG := Lib.hid HGz
  clear HGz
  have HF : Hid (∀ (i u v A L : Nat) (w3 w4 : World) (v4 : Value) (m : Nat), MeetsX x.fs a i → GiveU x.fs a i u A → GiveV x.fs a i v A L → m = 1 + (x.fs.length - v) → Below w.heap.size w w3 → w4.ownsRow w3.heap.size 110 2 v4 (u + m) (eC (x.fs.take u) ++ (eC [(A, L)] ++ eC (x.fs.drop v))) → w3.grownBy w4 none → RetNX w base lo hi x (fun s => Fr s ∨ s = a) (.int .i64 0) (.returned (.int .i64 0)) (w4.setCell ⟨x.M, 2, none⟩ v4)) := by
    rintro i u v A L w3 w4 v4 m hm hu hv2 rfl b3 o4 gr4
    obtain ⟨tg, tf⟩ := give_good h.good hm (fun hh => hfr ((h.fr a).1 hh)) hlo hhi u v A L hu hv2
    have hul : u ≤ x.fs.length := by
      have := hm.le
      rcases hu with ⟨rfl, _⟩ | ⟨_, h1, _⟩ <;> omega
    have b4 : Below w.heap.size w w4 := b3.grown gr4 b3.size (fun k hk => by cases hk)
    refine ⟨rfl, h.stored (fs := x.fs.take u ++ ([(A, L)] ++ x.fs.drop v)) b4 ?_ tg fun s => (tf s).trans (or_congr (h.fr s) Iff.rfl)⟩
    have e1 : (x.fs.take u ++ ([(A, L)] ++ x.fs.drop v)).length = u + (1 + (x.fs.length - v)) := by
      simp only [List.length_append, List.length_take, List.length_drop, List.length_singleton]
      omega
    rw [e1, eC_append, eC_append]
    exact own_low o4 b3.size
  have HB : Hid (∀ i, MeetsX x.fs a i → ∀ y, x.fs[i]? = some y → a + 1 ≤ y.1) := fun i hm y hy => by
    rcases Nat.lt_or_ge a y.1 with h1 | h1
    · exact h1
    · exact absurd ((h.fr a).1 ⟨y, List.mem_of_getElem? hy, h1, hm.behind i y (Nat.le_refl _) hy⟩) hfr
  have HI : Hid (∀ (k : Nat) (y : Ex), x.fs[k]? = some y → y.1 + y.2 ≤ hi) := fun k y hy => h.good.hi_ y (List.mem_of_getElem? hy)
  have B1 : Below w.heap.size w (w.alloc (.cells #[.int .i64 (a : Int), .int .i64 1] 110)) := (Below.refl _ _).alloc (Nat.le_refl _) _
  have bk := Blk.new w 110 #[.int .i64 (a : Int), .int .i64 1]
  have OC := xours_calls x a lo hi Fr _ base (h.below B1) hlo hhi
  have b0 := bk.at_ (i := 0) rfl
  have b1 := bk.at_ (i := 1) rfl
  have HH := Lib.hid h
  clear h hfr hv hlen
  go_enter Tryz.func67, Tryz.ntmps67
  go_wp2_with fail
  refine OC.mono ?_
  clear OC
  rintro e w2 ⟨rfl, B2z⟩
  have B2 := B1.trans (B2z.mono B1.size)
  have bk2 := bk.below B2z bk.lt
  have c0 : w2.cell? ⟨w.heap.size, 0, none⟩ = some (.int .i64 (a : Int)) := bk2.at_ rfl
  have c1 : w2.cell? ⟨w.heap.size, 1, none⟩ = some (.int .i64 1) := bk2.at_ rfl
  have MC := xmeets_calls x a lo hi Fr w2 base (HH.out.below B2) (by omega)
  clear bk b0 b1 B1
  go_wp2_with fail
  refine MC.mono ?_
  clear MC
  rintro e w3 ⟨i, rfl, hm, B3z⟩
  have B3 := B2.trans (B3z.mono B2.size)
  have bk3 := bk2.below B3z bk2.lt
  have hil := hm.le
  have HM := Lib.hid hm
  clear hm c0 c1 bk2 B2 B2z B3z HH
  have s2 : IntKind.i64.wrap ((a : Int) + 1) = (a : Int) + 1 := by rw [IntKind.wrap_i64]; omega
  go_upto_region 4 with fail
  go_cut [37] from 15 to 37 (fun v wx => v = .bool false ∧ Below w.heap.size w wx ∧ Blk wx w.heap.size 110 #[.int .i64 (a : Int), .int .i64 1])
  case first =>
    have m2 := (HG.out w3 B3).1
    have a0 : w3.cell? ⟨w.heap.size, 0, none⟩ = some (.int .i64 (a : Int)) := bk3.at_ rfl
    have a1 : w3.cell? ⟨w.heap.size, 1, none⟩ = some (.int .i64 1) := bk3.at_ rfl
    have BX := Lib.hid (fun q => And.intro (bel_drewN B3 q) (bk3.drewN q))
    by_cases k1 : i < x.fs.length
    · have d1 : decide ((i : Int) < (x.fs.length : Int)) = true := decide_eq_true (by omega)
      have d1' : decide (i < x.fs.length) = true := decide_eq_true k1
      obtain ⟨nf, hnf⟩ : ∃ nf, x.fs[i]? = some nf := ⟨_, List.getElem?_eq_getElem k1⟩
      have g0 := ((HG.out w3 B3).2.2.2.2 i nf hnf).1
      have hb1 : (i : Int) < (x.fs.length : Int) := by omega
      have hnn := HB.out i HM.out nf hnf
      have d2 : decide ((nf.1 : Int) < (a : Int) + 1) = false := decide_eq_false (by omega)
      clear hnf bk3 B3
      go_quiet (fail)
      go_wp2
      go_meet
      exact ⟨rfl, BX.out _⟩
    · have d1 : decide ((i : Int) < (x.fs.length : Int)) = false := decide_eq_false (by omega)
      have d1' : decide (i < x.fs.length) = false := decide_eq_false k1
      clear bk3 B3
      go_quiet (fail)
      go_wp2
      go_meet
      exact ⟨rfl, BX.out _⟩
  case rest =>
    clear B3 bk3
    obtain ⟨rfl, B4, bk4⟩ := hcut
    obtain ⟨w4, hw4⟩ : ∃ y : World, y = wc := ⟨_, rfl⟩
    rw [← hw4] at B4 bk4 ⊢
    clear hw4 wc
    go_upto_region 7 with fail
    go_cut [64] from 39 to 64 (fun v wx => ∃ b : Bool, v = .bool b ∧ (b = true → 0 < i ∧ ∃ pf, x.fs[i - 1]? = some pf ∧ pf.1 + pf.2 = a) ∧ (b = false → ∀ k y, k + 1 = i → x.fs[k]? = some y → y.1 + y.2 < a) ∧ Below w.heap.size w wx ∧ Blk wx w.heap.size 110 #[.int .i64 (a : Int), .int .i64 1])
    case first =>
      have m2 := (HG.out w4 B4).1
      have a0 : w4.cell? ⟨w.heap.size, 0, none⟩ = some (.int .i64 (a : Int)) := bk4.at_ rfl
      have BX := Lib.hid (fun q => And.intro (bel_drewN B4 q) (bk4.drewN q))
      by_cases k1 : 0 < i
      · have d3 : decide (0 < (i : Int)) = true := decide_eq_true (by omega)
        have d3' : decide (0 < i) = true := decide_eq_true k1
        obtain ⟨pf, hpf⟩ : ∃ pf, x.fs[i - 1]? = some pf := ⟨_, List.getElem?_eq_getElem (by omega)⟩
        have s3 : IntKind.i64.wrap ((i : Int) - 1) = ((i - 1 : Nat) : Int) := by rw [IntKind.wrap_i64]; omega
        have p0 := ((HG.out w4 B4).2.2.2.2 (i - 1) pf hpf).1
        have p1 := ((HG.out w4 B4).2.2.2.2 (i - 1) pf hpf).2
        have hb2 : ((i - 1 : Nat) : Int) < (x.fs.length : Int) := by omega
        have hb2' : i - 1 < x.fs.length := by omega
        have hpl := HI.out _ _ hpf
        have hpa := HM.out.before (i - 1) pf (by omega) hpf
        have s4 : IntKind.i64.wrap ((pf.1 : Int) + (pf.2 : Int)) = (pf.1 : Int) + (pf.2 : Int) := by rw [IntKind.wrap_i64]; omega
        have HP := Lib.hid hpf
        by_cases k2 : pf.1 + pf.2 = a
        · have d4 : ((pf.1 : Int) + (pf.2 : Int) == (a : Int)) = true := by simp; omega
          have HK := Lib.hid k2
          clear bk4 B4 hpf k2
          go_quiet (fail)
          go_wp2
          go_meet
          exact ⟨true, rfl, fun _ => ⟨k1, pf, HP.out, HK.out⟩, fun h => (by cases h), BX.out _⟩
        · have d4 : ((pf.1 : Int) + (pf.2 : Int) == (a : Int)) = false := by simp; omega
          have HK : Hid (pf.1 + pf.2 < a) := by show _ < _; omega
          clear bk4 B4 hpf k2
          go_quiet (fail)
          go_wp2
          go_meet
          exact ⟨false, rfl, fun h => (by cases h), fun _ k y hk hy => (by obtain rfl : k = i - 1 := (by omega); obtain rfl := Option.some.inj (hy.symm.trans HP.out); exact HK.out), BX.out _⟩
      · have d3 : decide (0 < (i : Int)) = false := decide_eq_false (by omega)
        have d3' : decide (0 < i) = false := decide_eq_false k1
        clear bk4 B4
        go_quiet (fail)
        go_wp2
        go_meet
        exact ⟨false, rfl, fun h => (by cases h), fun _ k y hk _ => (by omega), BX.out _⟩
    case rest =>
      clear B4 bk4
      obtain ⟨b, rfl, hb1, hb2, B5, bk5⟩ := hcut
      obtain ⟨w5, hw5⟩ : ∃ y : World, y = wc := ⟨_, rfl⟩
      rw [← hw5] at B5 bk5 ⊢
      clear hw5 wc
      have HB1 := Lib.hid hb1
      have HB2 := Lib.hid hb2
      clear hb1 hb2
      go_upto_if 64 with fail
      go_cut [5] from 65 to 86 (fun v wx => ∃ u A L : Nat, v = .int .i64 (u : Int) ∧ GiveU x.fs a i u A ∧ A + L = a + 1 ∧ Below w.heap.size w wx ∧ Blk wx w.heap.size 110 #[.int .i64 (A : Int), .int .i64 (L : Int)])
      case first =>
        cases b with
        | false =>
          go_wp2_with fail
          go_meet
          exact ⟨i, a, 1, rfl, .inl ⟨rfl, rfl, HB2.out (by simp)⟩, rfl, B5, bk5⟩
        | true =>
          obtain ⟨k1, pf, hpf, hpe⟩ := HB1.out rfl
          have s3 : IntKind.i64.wrap ((i : Int) - 1) = ((i - 1 : Nat) : Int) := by rw [IntKind.wrap_i64]; omega
          have m4 := (HG.out w5 B5).1
          have a1 : w5.cell? ⟨w.heap.size, 1, none⟩ = some (.int .i64 1) := bk5.at_ rfl
          have z0 := bk5.frozen 0
          have z1 := bk5.frozen 1
          have a0 : w5.cell? ⟨w.heap.size, 0, none⟩ = some (.int .i64 (a : Int)) := bk5.at_ rfl
          have p0 := ((HG.out w5 B5).2.2.2.2 (i - 1) pf hpf).1
          have p1 := ((HG.out w5 B5).2.2.2.2 (i - 1) pf hpf).2
          have hq : ((i - 1 : Nat) : Int) < (x.fs.length : Int) := by omega
          have hq' : i - 1 < x.fs.length := by omega
          have hpl := HI.out _ _ hpf
          have s5 : IntKind.i64.wrap ((pf.2 : Int) + 1) = (pf.2 : Int) + 1 := by rw [IntKind.wrap_i64]; omega
          have HP : Hid (GiveU x.fs a i (i - 1) pf.1) := .inr ⟨pf, by omega, hpf, hpe, rfl⟩
          have HE : Hid (pf.1 + (pf.2 + 1) = a + 1) := by show _ = _; omega
          have B6 : Below w.heap.size w ((w5.setCell ⟨w.heap.size, 0, none⟩ (.int .i64 (pf.1 : Int))).setCell ⟨w.heap.size, 1, none⟩ (.int .i64 ((pf.2 : Int) + 1))) := (B5.setCell (p := ⟨w.heap.size, 0, none⟩) (Nat.le_refl _) _).setCell (p := ⟨w.heap.size, 1, none⟩) (Nat.le_refl _) _
          have bk6 : Blk ((w5.setCell ⟨w.heap.size, 0, none⟩ (.int .i64 (pf.1 : Int))).setCell ⟨w.heap.size, 1, none⟩ (.int .i64 ((pf.2 : Int) + 1))) w.heap.size 110 #[.int .i64 (pf.1 : Int), .int .i64 ((pf.2 : Int) + 1)] := (bk5.set_ 0 _).set_ 1 _
          clear hpf hpe B5 bk5
          go_wp2_with fail
          go_region
          go_wp2
          go_meet
          exact ⟨i - 1, pf.1, pf.2 + 1, rfl, HP.out, HE.out, bel_drew B6, bk6.drew⟩
      case rest =>
        clear B5 bk5 HB1 HB2
        obtain ⟨u, A, L0, rfl, hu, hAL, B7, bk7⟩ := hcut
        obtain ⟨w7, hw7⟩ : ∃ y : World, y = wc := ⟨_, rfl⟩
        rw [← hw7] at B7 bk7 ⊢
        clear hw7 wc
        have HU := Lib.hid hu
        have s6 : IntKind.i64.wrap ((A : Int) + (L0 : Int)) = (A : Int) + (L0 : Int) := by rw [IntKind.wrap_i64]; omega
        clear hu
        go_upto_region 10 with fail
        go_cut [109] from 87 to 109 (fun v wx => ∃ b : Bool, v = .bool b ∧ (b = true → ∃ nf, x.fs[i]? = some nf ∧ nf.1 = a + 1) ∧ (b = false → ∀ y, x.fs[i]? = some y → a + 1 < y.1) ∧ Below w.heap.size w wx ∧ Blk wx w.heap.size 110 #[.int .i64 (A : Int), .int .i64 (L0 : Int)])
        case first =>
          have m5 := (HG.out w7 B7).1
          have e0 : w7.cell? ⟨w.heap.size, 0, none⟩ = some (.int .i64 (A : Int)) := bk7.at_ rfl
          have e1 : w7.cell? ⟨w.heap.size, 1, none⟩ = some (.int .i64 (L0 : Int)) := bk7.at_ rfl
          have BX := Lib.hid (fun q => And.intro (bel_drewN B7 q) (bk7.drewN q))
          by_cases k1 : i < x.fs.length
          · have d1 : decide ((i : Int) < (x.fs.length : Int)) = true := decide_eq_true (by omega)
            have d1' : decide (i < x.fs.length) = true := decide_eq_true k1
            obtain ⟨nf, hnf⟩ : ∃ nf, x.fs[i]? = some nf := ⟨_, List.getElem?_eq_getElem k1⟩
            have g0 := ((HG.out w7 B7).2.2.2.2 i nf hnf).1
            have hq : (i : Int) < (x.fs.length : Int) := by omega
            have hnn := HB.out i HM.out nf hnf
            have HN := Lib.hid hnf
            by_cases k2 : nf.1 = a + 1
            · have d6 : ((nf.1 : Int) == (A : Int) + (L0 : Int)) = true := by simp; omega
              have HK := Lib.hid k2
              clear hnf bk7 B7 k2 hnn
              go_quiet (fail)
              go_wp2
              go_meet
              exact ⟨true, rfl, fun _ => ⟨nf, HN.out, HK.out⟩, fun h => (by cases h), BX.out _⟩
            · have d6 : ((nf.1 : Int) == (A : Int) + (L0 : Int)) = false := by simp; omega
              have HK : Hid (a + 1 < nf.1) := by show _ < _; omega
              clear hnf bk7 B7 k2 hnn
              go_quiet (fail)
              go_wp2
              go_meet
              exact ⟨false, rfl, fun h => (by cases h), fun _ y hy => (by obtain rfl := Option.some.inj (hy.symm.trans HN.out); exact HK.out), BX.out _⟩
          · have d1 : decide ((i : Int) < (x.fs.length : Int)) = false := decide_eq_false (by omega)
            have d1' : decide (i < x.fs.length) = false := decide_eq_false k1
            clear bk7 B7
            go_quiet (fail)
            go_wp2
            go_meet
            exact ⟨false, rfl, fun h => (by cases h), fun _ y hy => (by have := (List.getElem?_eq_some_iff.1 hy).1; omega), BX.out _⟩
        case rest =>
          clear B7 bk7
          obtain ⟨b, rfl, hb1, hb2, B8, bk8⟩ := hcut
          obtain ⟨w8, hw8⟩ : ∃ y : World, y = wc := ⟨_, rfl⟩
          rw [← hw8] at B8 bk8 ⊢
          clear hw8 wc
          have HB1 := Lib.hid hb1
          have HB2 := Lib.hid hb2
          clear hb1 hb2
          go_upto_if 109 with fail
          go_cut [6] from 110 to 123 (fun z wx => ∃ v L : Nat, z = .int .i64 (v : Int) ∧ v ≤ x.fs.length ∧ GiveV x.fs a i v A L ∧ Below w.heap.size w wx ∧ Blk wx w.heap.size 110 #[.int .i64 (A : Int), .int .i64 (L : Int)])
          case first =>
            cases b with
            | false =>
              go_wp2_with fail
              go_meet
              exact ⟨i, L0, rfl, hil, .inl ⟨rfl, hAL, HB2.out (by simp)⟩, B8, bk8⟩
            | true =>
              obtain ⟨nf, hnf, hne2⟩ := HB1.out rfl
              have m6 := (HG.out w8 B8).1
              have e1 : w8.cell? ⟨w.heap.size, 1, none⟩ = some (.int .i64 (L0 : Int)) := bk8.at_ rfl
              have z1 := bk8.frozen 1
              have g1 := ((HG.out w8 B8).2.2.2.2 i nf hnf).2
              have hil2 := (List.getElem?_eq_some_iff.1 hnf).1
              have hq : (i : Int) < (x.fs.length : Int) := by omega
              have hnl := HI.out _ _ hnf
              have s7 : IntKind.i64.wrap ((L0 : Int) + (nf.2 : Int)) = (L0 : Int) + (nf.2 : Int) := by rw [IntKind.wrap_i64]; omega
              have s8 : IntKind.i64.wrap ((i : Int) + 1) = (i : Int) + 1 := by rw [IntKind.wrap_i64]; omega
              have HV : Hid (GiveV x.fs a i (i + 1) A (L0 + nf.2)) := .inr ⟨nf, rfl, hnf, hne2, by omega⟩
              have B9 : Below w.heap.size w (w8.setCell ⟨w.heap.size, 1, none⟩ (.int .i64 ((L0 : Int) + (nf.2 : Int)))) := B8.setCell (p := ⟨w.heap.size, 1, none⟩) (Nat.le_refl _) _
              have bk9 : Blk (w8.setCell ⟨w.heap.size, 1, none⟩ (.int .i64 ((L0 : Int) + (nf.2 : Int)))) w.heap.size 110 #[.int .i64 (A : Int), .int .i64 ((L0 : Int) + (nf.2 : Int))] := bk8.set_ 1 _
              clear hnf hne2 B8 bk8
              go_wp2_with fail
              go_region
              go_wp2
              go_meet
              exact ⟨i + 1, L0 + nf.2, by simp, hil2, HV.out, bel_drew B9, by simpa using bk9.drew⟩
          case rest =>
            clear B8 bk8 HB1 HB2
            obtain ⟨v, L, rfl, hvl, hv2, B10, bk10⟩ := hcut
            obtain ⟨w10, hw10⟩ : ∃ y : World, y = wc := ⟨_, rfl⟩
            rw [← hw10] at B10 bk10 ⊢
            clear hw10 wc
            have HF2 := Lib.hid (fun w3 w4 v4 => HF.out i u v A L w3 w4 v4 (1 + (x.fs.length - v)) HM.out HU.out hv2 rfl)
            have hul : u ≤ x.fs.length := by
              rcases HU.out with ⟨rfl, _⟩ | ⟨_, h1, _⟩ <;> omega
            have m7 := (HG.out w10 B10).1
            have m7z := (HG.out w10 B10).2.1
            have e0 : w10.cell? ⟨w.heap.size, 0, none⟩ = some (.int .i64 (A : Int)) := bk10.at_ rfl
            have e1 : w10.cell? ⟨w.heap.size, 1, none⟩ = some (.int .i64 (L : Int)) := bk10.at_ rfl
            have huc : u ≤ c := by omega
            have o1 : (w10.alloc (.cells #[.int .i64 (A : Int), .int .i64 (L : Int)] 110)).ownsRow w.heap.size 110 2 (.slice (some ⟨w10.heap.size, 0, none⟩) 1 1) 1 (eC [(A, L)]) := ⟨by simp [eC, exC], .inr ⟨w10.heap.size, 1, #[.int .i64 (A : Int), .int .i64 (L : Int)], rfl, B10.size, heap_alloc_new _ _, Nat.le_refl _, by decide, rfl, rfl⟩⟩
            have BA : Below w.heap.size w (w10.alloc (.cells #[.int .i64 (A : Int), .int .i64 (L : Int)] 110)) := B10.alloc B10.size _
            have mA := (HG.out (w10.alloc (.cells #[.int .i64 (A : Int), .int .i64 (L : Int)] 110)) BA).1
            have mAz := (HG.out (w10.alloc (.cells #[.int .i64 (A : Int), .int .i64 (L : Int)] 110)) BA).2.1
            have HR := Lib.hid (HG.out _ BA).2.2.1
            have l1 : (eC (x.fs.drop v)).length = (x.fs.length - v) * 2 := by rw [eC_len, List.length_drop]
            have l2 : (1 + (x.fs.length - v)) ≤ maxLen := by unfold maxLen; omega
            have l3 : (1 + (x.fs.length - v)) * 16 ≤ 140737488355328 := by omega
            have l4 : (eC (x.fs.take u)).length = u * 2 := by rw [eC_len, List.length_take]; omega
            have l5 : (eC [(A, L)] ++ eC (x.fs.drop v)).length = (1 + (x.fs.length - v)) * 2 := by simp only [List.length_append, eC_len, List.length_drop, List.length_nil, List.length_cons]; omega
            have l6 : 0 < (1 + (x.fs.length - v)) := by omega
            have l7 : u < u + (1 + (x.fs.length - v)) := by omega
            have l8 : u + (1 + (x.fs.length - v)) ≤ maxLen := by unfold maxLen; omega
            have l9 : (u + (1 + (x.fs.length - v))) * 16 ≤ 140737488355328 := by omega
            have lb := B10.size
            clear bk10 HM HU hlo hhi h6 hn hil hnc s2 hg HB HI HF hv2 hAL s6 hne
            go_wp2_with fail
            go_region_law (first
              | (refine step_append_rv (base := w.heap.size) (v := .slice (some ⟨w10.heap.size, 0, none⟩) 1 1) (n := 1) (m := x.fs.length - v) (c := c - v) (xs := eC [(A, L)]) (news := eC (x.fs.drop v)) el_ex rfl (.tmp 133) (.tmp 139) rfl rfl o1 rfl l1 (HR.out v) (eC_one _) l2 l3 BA.size ?_; intro v3 w3 own3 gr3z hv3; have gr3 : (w10.alloc (.cells #[.int .i64 (A : Int), .int .i64 (L : Int)] 110)).grownBy w3 (some w10.heap.size) := ⟨gr3z.os, gr3z.tape, gr3z.output, gr3z.size, gr3z.block⟩; clear gr3z; have bel3 : Below w.heap.size w w3 := BA.grown gr3 BA.size (fun k hk => by cases hk; exact lb); (obtain ⟨A3, c3, hv3f, _, _⟩ := own_form own3); subst hv3f; have r3 := own_rvN own3; have p3 := (HG.out w3 bel3).1; have pz3 := (HG.out w3 bel3).2.1; clear gr3 own3 hv3)
              | (refine step_append_grows (n := u) (cap := u) (b := ⟨g, 0, none⟩) (m := (1 + (x.fs.length - v))) (olds := eC (x.fs.take u)) (news := eC [(A, L)] ++ eC (x.fs.drop v)) el_ex rfl (.tmp 131) (.tmp 140) rfl rfl l4 ((HG.out w3 bel3).2.2.2.1 u) rfl l5 r3 l6 l7 l8 l9 ?_; intro v4 w4 own4 gr4; have HE := Lib.hid (HF2.out w3 w4 v4 bel3 own4 gr4); have bel4 : Below w.heap.size w w4 := bel3.grown gr4 bel3.size (fun k hk => by cases hk); (obtain ⟨A4, c4, hv4f, _, _⟩ := own_form own4); subst hv4f; have p4 := (HG.out w4 bel4).1; have pz4 := (HG.out w4 bel4).2.1; clear own4 gr4))
            all_goals
              go_wp2
              all_goals
                go_ret
                exact HE.out
end Go.Proofs.YtendnkklbeiegaaGreatDoor
