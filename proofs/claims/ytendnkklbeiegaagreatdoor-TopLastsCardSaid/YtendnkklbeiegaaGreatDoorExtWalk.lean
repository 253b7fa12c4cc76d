/-
  The walks of a map of free sectors' Take, Claim and New, one sector each.
-/
import Derived.Test.YtendnkklbeiegaaGreatDoorExtTake
import Derived.Laws.ResultCell
namespace Go.Proofs.YtendnkklbeiegaaGreatDoor
open Go.RowKit ExtP

theorem results_cell_two {P : Program} {fn : Func} {p u : Tmp} {ty : TypeId} (h : fn.results = #[.cell p ty, .tmp u]) (tmps : Array Value) (w : World) (g : Nat) (t : TypeId) (cs : Array Value) (fr : Nat × Nat) (d : TypeDesc)
    (hp : tmps.getD p undef = .pointer (some ⟨g, 0, none⟩)) (hg : w.heap[g]? = some (.cells cs t fr))
    (hu : P.underlying ty = some d) (hd : (match d with | .struct _ | .array _ _ => true | _ => false) = true) (hi : (P.info? ty).map (·.size) = some cs.size) :
    (results fn tmps).run P w = .ok (.tuple #[.agg cs, tmps.getD u undef]) w := by
  rw [results_cell_tmp h, hp]
  simp only [asAddr, Sem.run_pure, Result.andThen_ok, run_loadVar_row w g t ty cs fr d hg hu hd hi]
/-- Free, and not the last one. -/
def FrA (Fr : Nat → Prop) (a : Nat) : Prop := Fr a ∧ ∃ s, Fr s ∧ a < s
def RetTake (w : World) (base lo hi : Nat) (x : XMap) (Fr : Nat → Prop) (e : Ending) (w' : World) : Prop :=
  ∃ a : Nat, e = .returned (.tuple #[.agg #[.int .i64 (a : Int), .int .i64 1], .int .i64 0]) ∧ FrA Fr a ∧ NextX w base lo hi x (fun s => Fr s ∧ s ≠ a) w'
def RetNX (w : World) (base lo hi : Nat) (x : XMap) (Fr : Nat → Prop) (v : Value) (e : Ending) (w' : World) : Prop := e = .returned v ∧ NextX w base lo hi x Fr w'
theorem NextX.after {w w1 w' : World} {base lo hi : Nat} {x : XMap} {Fr : Nat → Prop} (b : Below w.heap.size w w1) (h : NextX w1 base lo hi x Fr w') : NextX w base lo hi x Fr w' := by
  obtain ⟨x', h1, h2, h3, h4⟩ := h
  exact ⟨x', h1, h2, (Kept.of_below b _).trans h3, fun k hk => (h4 k hk).imp id fun hl => Nat.le_trans b.size hl⟩
theorem NextX.then {w w1 w' : World} {base lo hi : Nat} {x : XMap} {Fr : Nat → Prop} (h : NextX w base lo hi x Fr w1) (b : Below w1.heap.size w1 w') : NextX w base lo hi x Fr w' := by
  obtain ⟨x', h1, h2, h3, h4⟩ := h
  exact ⟨x', h1.below b, h2, h3.trans (Kept.of_below b _), h4⟩
/-- A block that the call made stays behind take. -/
theorem NextX.blk {w w' : World} {base lo hi : Nat} {x : XMap} {Fr : Nat → Prop} (h : NextX w base lo hi x Fr w') {g : Nat} {t : TypeId} {cs : Array Value} (hb : Blk w g t cs) (hn : ¬ x.foot g) : Blk w' g t cs := by
  obtain ⟨x', h1, h2, h3, h4⟩ := h
  exact (h3.block g hb.lt hn).trans hb
theorem xTake_calls (x : XMap) (lo hi : Nat) (Fr : Nat → Prop) (w : World) (base : Nat) (h : ExtOK w base lo hi x Fr) (hs : ∃ s s', Fr s ∧ Fr s' ∧ s < s') :
    Calls Tryz.prog 64 #[.pointer (some ⟨x.M, 0, none⟩), .int .i64 1] w (RetTake w base lo hi x Fr) := by
  obtain ⟨s, s', f1, f2, f3⟩ := hs
  have hn := h.len
  have hpos : 0 < x.fs.length := by
    obtain ⟨y, hy, _⟩ := (h.fr s).2 f1
    exact List.length_pos_of_mem hy
  obtain ⟨f, hf⟩ : ∃ f, x.fs[0]? = some f := ⟨_, List.getElem?_eq_getElem hpos⟩
  have hfm := List.mem_of_getElem? hf
  have hp := h.good.pos f hfm
  have hfe := h.good.hi_ f hfm
  have h6 := h.h6
  have hfs : f.1 < s' := by
    obtain ⟨y, hy, y1, y2⟩ := (h.fr s).2 f1
    obtain ⟨k, hk⟩ := List.getElem?_of_mem hy
    rcases Nat.eq_zero_or_pos k with h0 | h0
    · subst h0
      obtain rfl := Option.some.inj (hk.symm.trans hf)
      omega
    · have := h.good.rise hf hk h0; omega
  have hfr : Fr f.1 := (h.fr _).1 ⟨f, hfm, Nat.le_refl _, by omega⟩
  obtain ⟨g, c, hv, hg, c0, c1⟩ := h.at_ hf
  have gk := h.mk_
  rw [hv] at gk
  obtain ⟨O1, hO1⟩ : ∃ O, O = Obj.cells #[.int .i64 0, .int .i64 0] 110 := ⟨_, rfl⟩
  obtain ⟨O2, hO2⟩ : ∃ O, O = Obj.cells #[.int .i64 (f.1 : Int), .int .i64 (f.2 : Int)] 110 := ⟨_, rfl⟩
  obtain ⟨O3, hO3⟩ : ∃ O, O = Obj.cells #[.int .i64 (f.1 : Int), .int .i64 1] 110 := ⟨_, rfl⟩
  have B1 : Below w.heap.size w (w.alloc O1) := (Below.refl _ _).alloc (Nat.le_refl _) _
  have B2 : Below w.heap.size w ((w.alloc O1).alloc O2) := B1.alloc (by simp) _
  have B3 : Below w.heap.size w (((w.alloc O1).alloc O2).alloc O3) := B2.alloc (by simp; omega) _
  have p1 : (w.alloc O1).cell? ⟨x.M, 2, none⟩ = some (.slice (some ⟨g, 0, none⟩) x.fs.length c) := (gk.below B1 gk.lt).at_ rfl
  have p2 : (w.alloc O1).cell? ⟨g, 0, none⟩ = some (.int .i64 (f.1 : Int)) := (B1.cell (p := ⟨g, 0, none⟩) hg).trans (by simpa using c0)
  have p3 : (w.alloc O1).cell? ⟨g, 1, none⟩ = some (.int .i64 (f.2 : Int)) := (B1.cell (p := ⟨g, 1, none⟩) hg).trans (by simpa using c1)
  have fk : Blk ((w.alloc O1).alloc O2) (w.heap.size + 1) 110 #[.int .i64 (f.1 : Int), .int .i64 (f.2 : Int)] := by have := Blk.new (w.alloc O1) 110 #[.int .i64 (f.1 : Int), .int .i64 (f.2 : Int)]; rw [hO2]; simpa using this
  have q1 : ((w.alloc O1).alloc O2).cell? ⟨w.heap.size + 1, 0, none⟩ = some (.int .i64 (f.1 : Int)) := fk.at_ rfl
  have q2 : ((w.alloc O1).alloc O2).cell? ⟨w.heap.size + 1, 1, none⟩ = some (.int .i64 (f.2 : Int)) := fk.at_ rfl
  have ek : Blk (((w.alloc O1).alloc O2).alloc O3) (w.heap.size + 1 + 1) 110 #[.int .i64 (f.1 : Int), .int .i64 1] := by have := Blk.new ((w.alloc O1).alloc O2) 110 #[.int .i64 (f.1 : Int), .int .i64 1]; rw [hO3]; simpa using this
  have rk : Blk (((w.alloc O1).alloc O2).alloc O3) w.heap.size 110 #[.int .i64 0, .int .i64 0] := by
    have := ((Blk.new w 110 #[.int .i64 0, .int .i64 0]).alloc O2).alloc O3
    rw [hO1]; exact this
  have TC := xtake_calls x 0 f.1 lo hi f Fr (((w.alloc O1).alloc O2).alloc O3) base (h.below B3) hf (Nat.le_refl _) (by omega) ⟨s', f2, hfs⟩
  have nf1 : ¬ x.foot w.heap.size := fun hk => by have := (h.foot_lt hk).2; omega
  have nf2 : ¬ x.foot (w.heap.size + 1 + 1) := fun hk => by have := (h.foot_lt hk).2; omega
  have e1 : ((((w.alloc O1).alloc O2).alloc O3)).cell? ⟨w.heap.size + 1 + 1, 0, none⟩ = some (.int .i64 (f.1 : Int)) := ek.at_ rfl
  have e2 : ((((w.alloc O1).alloc O2).alloc O3)).cell? ⟨w.heap.size + 1 + 1, 1, none⟩ = some (.int .i64 1) := ek.at_ rfl
  have d0 : decide ((0 : Int) < (x.fs.length : Int)) = true := decide_eq_true (by omega)
  have d0' : decide (0 < x.fs.length) = true := decide_eq_true hpos
  have d1 : decide (1 ≤ (f.2 : Int)) = true := decide_eq_true (by omega)
  have d1' : decide (1 ≤ f.2) = true := decide_eq_true hp
  have HN : Hid (∀ w5, NextX (((w.alloc O1).alloc O2).alloc O3) base lo hi x (fun s => Fr s ∧ s ≠ f.1) w5 → Blk w5 (w.heap.size + 1 + 1) 110 #[.int .i64 (f.1 : Int), .int .i64 1] ∧ Blk w5 w.heap.size 110 #[.int .i64 0, .int .i64 0] ∧ ∀ u v, RetTake w base lo hi x Fr (.returned (.tuple #[.agg #[.int .i64 (f.1 : Int), .int .i64 1], .int .i64 0])) ((w5.setCell ⟨w.heap.size, 0, none⟩ u).setCell ⟨w.heap.size, 1, none⟩ v)) := by
    intro w5 n5
    refine ⟨n5.blk ek nf2, n5.blk rk nf1, fun u v => ⟨f.1, rfl, ⟨hfr, s', f2, hfs⟩, ?_⟩⟩
    obtain ⟨x', n1, n2, n3, n4⟩ := n5
    have hx : ¬ x'.foot w.heap.size := fun hk => (n4 _ hk).elim nf1 (fun hl => by simp at hl; omega)
    have K : Kept (fun k => k = w.heap.size) w5 ((w5.setCell ⟨w.heap.size, 0, none⟩ u).setCell ⟨w.heap.size, 1, none⟩ v) := ((Kept.refl (fun k => k = w.heap.size) w5).setCell (p := ⟨w.heap.size, 0, none⟩) (.inl rfl) u).setCell (p := ⟨w.heap.size, 1, none⟩) (.inl rfl) v
    exact ⟨x', n1.kept K (fun k hk e => hx (e ▸ hk)), n2, (((Kept.of_below B3 _).trans n3).setCell (.inr (Nat.le_refl _)) _).setCell (.inr (Nat.le_refl _)) _, fun k hk => (n4 k hk).imp id fun hl => Nat.le_trans B3.size hl⟩
  rw [hO3, hO2, hO1] at TC HN
  rw [hO1] at p1 p2 p3
  rw [hO2, hO1] at q1 q2
  rw [hO3, hO2, hO1] at e1 e2
  clear h hfs hfr f1 f2 f3 hf hfm nf1 nf2 ek rk fk B1 B2 B3 gk c0 c1
  go_enter Tryz.func64, Tryz.ntmps64
  go_wp2_with fail
  go_loopw [21] (fun k wr => k = .int .i64 0 ∧ wr = w.alloc (Obj.cells #[.int .i64 0, .int .i64 0] 110)) (fun _ _ => 0)
  case atStart => exact ⟨rfl, rfl⟩
  case round =>
    obtain ⟨rfl, rfl⟩ := hrel
    go_wp2_with fail
    refine TC.mono ?_
    clear TC
    rintro e w5 ⟨rfl, n5⟩
    obtain ⟨b1, b2, HE⟩ := HN.out w5 n5
    have u1 : w5.cell? ⟨w.heap.size + 1 + 1, 0, none⟩ = some (.int .i64 (f.1 : Int)) := b1.at_ rfl
    have u2 : w5.cell? ⟨w.heap.size + 1 + 1, 1, none⟩ = some (.int .i64 1) := b1.at_ rfl
    have v1 : w5.cell? ⟨w.heap.size, 0, none⟩ = some (.int .i64 0) := b2.at_ rfl
    have v2 : w5.cell? ⟨w.heap.size, 1, none⟩ = some (.int .i64 0) := b2.at_ rfl
    have z1 := b2.frozen 0
    have z2 := b2.frozen 1
    have HF := Lib.hid HE
    have bF : Blk ((w5.setCell ⟨w.heap.size, 0, none⟩ (.int .i64 (f.1 : Int))).setCell ⟨w.heap.size, 1, none⟩ (.int .i64 1)) w.heap.size 110 #[.int .i64 (f.1 : Int), .int .i64 1] := (b2.set_ 0 _).set_ 1 _
    clear HE n5 b1 b2 HN
    go_wp2
    refine bodyPost_ret (results_cell_two rfl _ _ w.heap.size 110 #[.int .i64 (f.1 : Int), .int .i64 1] (0, 0) _ (by kernel_rfl) bF Tryz.underlying110 (by kernel_rfl) (by kernel_rfl)) rfl ?_
    exact HF.out _ _
theorem xClaim_calls (x : XMap) (a lo hi : Nat) (Fr : Nat → Prop) (w : World) (base : Nat) (h : ExtOK w base lo hi x Fr) (hlo : lo ≤ a) (hhi : a < hi) (hfr : Fr a) (hs : ∃ s, Fr s ∧ a < s) :
    Calls Tryz.prog 34 #[.pointer (some ⟨x.M, 0, none⟩), .agg #[.int .i64 (a : Int), .int .i64 1]] w (RetNX w base lo hi x (fun s => Fr s ∧ s ≠ a) (.int .i64 0)) := by
  have h6 := h.h6
  have hn := h.len
  have B1 : Below w.heap.size w (w.alloc (.cells #[.int .i64 (a : Int), .int .i64 1] 110)) := (Below.refl _ _).alloc (Nat.le_refl _) _
  have bk := Blk.new w 110 #[.int .i64 (a : Int), .int .i64 1]
  have OC := xours_calls x a lo hi Fr _ base (h.below B1) hlo hhi
  have b0 := bk.at_ (i := 0) rfl
  have b1 := bk.at_ (i := 1) rfl
  have hnf : ¬ x.foot w.heap.size := fun hk => by have := (h.foot_lt hk).2; omega
  go_enter Tryz.func34, Tryz.ntmps34
  go_wp2_with fail
  refine OC.mono ?_
  clear OC
  rintro e w2 ⟨rfl, B2z⟩
  have B2 := B1.trans (B2z.mono B1.size)
  have bk2 := bk.below B2z bk.lt
  have c0 : w2.cell? ⟨w.heap.size, 0, none⟩ = some (.int .i64 (a : Int)) := bk2.at_ rfl
  have c1 : w2.cell? ⟨w.heap.size, 1, none⟩ = some (.int .i64 1) := bk2.at_ rfl
  have MC := xmeets_calls x a lo hi Fr w2 base (h.below B2) (by omega)
  clear bk b0 b1 B1
  go_wp2_with fail
  refine MC.mono ?_
  clear MC
  rintro e w3 ⟨i, rfl, hm, B3z⟩
  have B3 := B2.trans (B3z.mono B2.size)
  have bk3 := bk2.below B3z bk2.lt
  have h3 := h.below B3
  obtain ⟨f, hf, hfa⟩ := (MeetsX.free h.good hm).1 ((h.fr a).2 hfr)
  have hfe := hm.behind i f (Nat.le_refl _) hf
  have hfh := h.good.hi_ f (List.mem_of_getElem? hf)
  have hil := (List.getElem?_eq_some_iff.1 hf).1
  obtain ⟨g, c, hv, hg, g0, g1⟩ := h3.at_ hf
  have gk := h3.mk_
  rw [hv] at gk
  have m2 : w3.cell? ⟨x.M, 2, none⟩ = some (.slice (some ⟨g, 0, none⟩) x.fs.length c) := gk.at_ rfl
  have a0 : w3.cell? ⟨w.heap.size, 0, none⟩ = some (.int .i64 (a : Int)) := bk3.at_ rfl
  have a1 : w3.cell? ⟨w.heap.size, 1, none⟩ = some (.int .i64 1) := bk3.at_ rfl
  have d1 : ((i : Int) == (x.fs.length : Int)) = false := by simp; omega
  have d1' : (i == x.fs.length) = false := by simp; omega
  have d1'' : decide (i = x.fs.length) = false := decide_eq_false (by omega)
  have d2 : decide ((a : Int) < (f.1 : Int)) = false := decide_eq_false (by omega)
  have d2' : decide (a < f.1) = false := decide_eq_false (by omega)
  have s1 : IntKind.i64.wrap ((f.1 : Int) + (f.2 : Int)) = (f.1 : Int) + (f.2 : Int) := by rw [IntKind.wrap_i64]; omega
  have s2 : IntKind.i64.wrap ((a : Int) + 1) = (a : Int) + 1 := by rw [IntKind.wrap_i64]; omega
  have d3 : decide ((f.1 : Int) + (f.2 : Int) < (a : Int) + 1) = false := decide_eq_false (by omega)
  have hb1 : (i : Int) < (x.fs.length : Int) := by omega
  have TC := fun q => xtake_calls x i a lo hi f Fr (w3.drewN q) base (h3.below (drewN_bel w3 q)) hf hfa hfe hs
  have HF : Hid (∀ (q : Nat) (e : Ending) (w' : World), e = .returned (.tuple #[]) ∧ NextX (w3.drewN q) base lo hi x (fun s => Fr s ∧ s ≠ a) w' → RetNX w base lo hi x (fun s => Fr s ∧ s ≠ a) (.int .i64 0) (.returned (.int .i64 0)) w') := fun q e w' hh => ⟨rfl, NextX.after (bel_drewN B3 q) hh.2⟩
  clear h h3 hm hf hfa hfr hs gk hv bk2 bk3 c0 c1 B2 B3 B2z B3z hnf
  go_wp2_with fail
  go_quiet (fail)
  go_wp2_with fail
  refine (TC _).mono ?_
  clear TC
  rintro e w4 ⟨rfl, n4⟩
  have HE := Lib.hid (HF.out _ _ w4 ⟨rfl, n4⟩)
  clear HF n4
  go_wp2
  go_ret
  exact HE.out
def RetNew (w : World) (lo hi : Nat) (e : Ending) (w' : World) : Prop :=
  ∃ x : XMap, e = .returned (.tuple #[.pointer (some ⟨x.M, 0, none⟩), .int .i64 0]) ∧ ExtOK w' w.heap.size lo hi x (fun s => lo ≤ s ∧ s < hi) ∧ Below w.heap.size w w'
theorem xNew_calls (lo hi : Nat) (w : World) (h1 : lo < hi) (h2 : hi ≤ 1000000) :
    Calls Tryz.prog 30 #[.int .i64 (lo : Int), .int .i64 ((hi - lo : Nat) : Int)] w (RetNew w lo hi) := by
  have d1 : decide ((lo : Int) < 0) = false := decide_eq_false (by omega)
  have d2 : decide (1048576 < (lo : Int)) = false := decide_eq_false (by omega)
  have d3 : decide (((hi - lo : Nat) : Int) < 0) = false := decide_eq_false (by omega)
  have d4 : decide (1048576 < ((hi - lo : Nat) : Int)) = false := decide_eq_false (by omega)
  have d5 : decide (0 < ((hi - lo : Nat) : Int)) = true := decide_eq_true (by omega)
  have d2' : decide (1048576 < lo) = false := decide_eq_false (by omega)
  have d4' : decide (1048576 < hi - lo) = false := decide_eq_false (by omega)
  have d5' : decide (0 < hi - lo) = true := decide_eq_true (by omega)
  have HF : Hid (RetNew w lo hi (.returned (.tuple #[.pointer (some ⟨w.heap.size, 0, none⟩), .int .i64 0])) ((w.alloc (.cells #[.int .i64 (lo : Int), .int .i64 ((hi - lo : Nat) : Int), .slice (some ⟨w.heap.size + 1, 0, none⟩) 1 1] 172)).alloc (.cells #[.int .i64 (lo : Int), .int .i64 ((hi - lo : Nat) : Int)] 110))) := by
    have B1 : Below w.heap.size w (w.alloc (.cells #[.int .i64 (lo : Int), .int .i64 ((hi - lo : Nat) : Int), .slice (some ⟨w.heap.size + 1, 0, none⟩) 1 1] 172)) := (Below.refl _ _).alloc (Nat.le_refl _) _
    have B2 : Below w.heap.size w ((w.alloc (.cells #[.int .i64 (lo : Int), .int .i64 ((hi - lo : Nat) : Int), .slice (some ⟨w.heap.size + 1, 0, none⟩) 1 1] 172)).alloc (.cells #[.int .i64 (lo : Int), .int .i64 ((hi - lo : Nat) : Int)] 110)) := B1.alloc (by simp) _
    have mk := (Blk.new w 172 #[.int .i64 (lo : Int), .int .i64 ((hi - lo : Nat) : Int), .slice (some ⟨w.heap.size + 1, 0, none⟩) 1 1]).alloc (.cells #[.int .i64 (lo : Int), .int .i64 ((hi - lo : Nat) : Int)] 110)
    have ek := Blk.new (w.alloc (.cells #[.int .i64 (lo : Int), .int .i64 ((hi - lo : Nat) : Int), .slice (some ⟨w.heap.size + 1, 0, none⟩) 1 1] 172)) 110 #[.int .i64 (lo : Int), .int .i64 ((hi - lo : Nat) : Int)]
    rw [World.size_alloc] at ek
    refine ⟨⟨w.heap.size, .slice (some ⟨w.heap.size + 1, 0, none⟩) 1 1, [(lo, hi - lo)]⟩, rfl, ⟨mk, ?_, GoodX.one (Nat.le_refl _) (by omega) (by omega), fun s => ?_, Nat.le_refl _, fun e => by simp [Value.ownBlock] at e, by omega, h2⟩, B2⟩
    · exact ⟨by simp [eC, exC], .inr ⟨w.heap.size + 1, 1, #[.int .i64 (lo : Int), .int .i64 ((hi - lo : Nat) : Int)], rfl, by omega, ek, Nat.le_refl _, by decide, rfl, rfl⟩⟩
    · show FreeX [(lo, hi - lo)] s ↔ _
      rw [FreeX.cons]
      simp only [iff_false_intro (FreeX.nil s), or_false]
      omega
  have mk := (Blk.new w 172 #[.int .i64 (lo : Int), .int .i64 ((hi - lo : Nat) : Int), .slice none 0 0]).alloc (.cells #[.int .i64 (lo : Int), .int .i64 ((hi - lo : Nat) : Int)] 110)
  have p2 := mk.at_ (i := 2) rfl
  have z2 := mk.frozen 2
  clear mk
  go_enter Tryz.func30, Tryz.ntmps30
  go_wp2
  go_ret2
  exact HF.out
end Go.Proofs.YtendnkklbeiegaaGreatDoor
