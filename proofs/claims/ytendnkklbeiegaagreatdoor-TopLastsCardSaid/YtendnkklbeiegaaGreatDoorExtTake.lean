/-
  The walks of a map of free sectors' take and Take.
-/
import Derived.Test.YtendnkklbeiegaaGreatDoorMAH
import Derived.ArgAppend
import Derived.BigRegion
namespace Go.Proofs.YtendnkklbeiegaaGreatDoor
open Go.RowKit ExtP

/-- append onto a full slice, as one step of a region that draws. -/
theorem step_append_grows {P : Program} {w : World} {t e : TypeId} {z : Value} {size bytes n cap m c : Nat} {b : Addr} {olds news : List Value} {A : Option Addr} {ops : Array Oper} {o : Oper} {a : Act} {K : Act → World → Prop} {Q : Exit → Act → World → Prop} {E : Prop}
    (El0 : El P t e z size bytes) (hg : o.guard = none) (s x : Operand)
    (ho : o.op = .call { callee := .builtin .append, args := #[s, x], argTypes := #[t, t] })
    (hs : a.eval s = .slice (some b) n cap) (hlo : olds.length = n * size) (holds : ∀ j u, olds[j]? = some u → w.cell? (b.add j) = some u)
    (hx : a.eval x = .slice A m c) (hl : news.length = m * size) (hr : RV w A news) (hm : 0 < m) (hfull : cap < n + m)
    (h63 : n + m ≤ maxLen) (hbytes : (n + m) * bytes ≤ 140737488355328)
    (hK : ∀ v' w', w'.ownsRow w.heap.size e size v' (n + m) (olds ++ news) → w.grownBy w' none → K (a.put o.dst v') w') :
    if Region.wanted o (yielded ops a.tmps) = true then Oper.wp P o a w K Q else E := by
  have hw : Region.wanted o (yielded ops a.tmps) = true := by simp [Region.wanted, hg]
  rw [if_pos hw]
  obtain ⟨i, i1, i2, i3, i4⟩ := El0.info
  have hne : 0 < news.length := by rw [hl]; exact Nat.mul_pos hm El0.pos
  obtain ⟨ad, rfl, hc⟩ := rv_cells hr hne
  obtain ⟨v', w', hrun, h2, h3⟩ := run_append_arg_grows (P := P) w t o.type e i z size bytes El0.under i1 i2 i3 i4 El0.cells El0.pos b n cap olds hlo holds ad m c news hl hc hfull h63 hbytes
  unfold Oper.wp execOp
  simp only [ho, resolve, invoke, builtin, Sem.run_bind, Sem.run_pure, Result.andThen_ok, List.map_toArray, List.map_cons, List.map_nil, hs, hx, hrun]
  exact hK _ _ h2 h3
theorem own_low {w : World} {a b : Nat} {e : TypeId} {size n : Nat} {v : Value} {xs : List Value} (h : w.ownsRow b e size v n xs) (hab : a ≤ b) : w.ownsRow a e size v n xs := by
  refine ⟨h.1, ?_⟩
  rcases h.2 with h0 | ⟨g, cap, cur, e1, h1, h2⟩
  · exact .inl h0
  · exact .inr ⟨g, cap, cur, e1, by omega, h2⟩
/-- A row of the call's own reads as its cells. -/
theorem own_rvN {w : World} {N n c s : Nat} {e : TypeId} {A : Option Addr} {xs : List Value} (h : w.ownsRow N e s (.slice A n c) n xs) : RV w A xs := fun hne => by
  have hl := h.1
  rcases h.2 with ⟨_, h0⟩ | ⟨g, cap, cur, e1, h1, h2, _⟩
  · exfalso
    subst h0
    rw [Nat.zero_mul] at hl
    exact hne (List.length_eq_zero_iff.1 hl)
  · injection e1 with e1 _ e3
    subst e1 e3
    have hlt := lt_of_block h2
    refine ⟨g, 0, rfl, hlt, fun j v hj => ?_⟩
    rw [Nat.zero_add, h.cellAt _ (by rw [← hl]; exact (List.getElem?_eq_some_iff.1 hj).1)]
    exact hj
section
variable {w w3 : World} {base lo hi : Nat} {x : XMap} {Fr Fr' : Nat → Prop}
theorem ExtOK.base_le (h : ExtOK w base lo hi x Fr) : base ≤ w.heap.size := by have := h.bM; have := h.mk_.lt; omega
/-- Another row is stored. -/
theorem ExtOK.stored {v : Value} {fs : List Ex} (h : ExtOK w base lo hi x Fr) (b : Below w.heap.size w w3) (o : w3.ownsRow w.heap.size 110 2 v fs.length (eC fs)) (g : GoodX lo hi fs) (hf : ∀ s, FreeX fs s ↔ Fr' s) :
    NextX w base lo hi x Fr' (w3.setCell ⟨x.M, 2, none⟩ v) := by
  have hM := h.mk_.lt
  have hb := h.base_le
  have g3 := h.mk_.below b hM
  have hv : ∀ k, v.ownBlock = some k → w.heap.size ≤ k := fun k hk => (o.lt k hk).1
  refine ⟨⟨x.M, v, fs⟩, ⟨g3.set_ 2 v, ?_, g, hf, h.bM, fun e => by have h1 := hv _ e; have h2 : w.heap.size ≤ x.M := h1; omega, h.lh, h.h6⟩, rfl, (Kept.of_below b _).setCell (.inl (.inl rfl)) v, fun k hk => ?_⟩
  · exact own_frame (own_low o hb) fun k hk => heap_setCell_other _ _ _ _ (by intro e; have := hv _ hk; simp at e; omega)
  · rcases hk with rfl | hk
    · exact .inl (.inl rfl)
    · exact .inr (hv k hk)
end
set_option maxHeartbeats 3200000 in
theorem xtake_calls (x : XMap) (i a lo hi : Nat) (f : Ex) (Fr : Nat → Prop) (w : World) (base : Nat) (h : ExtOK w base lo hi x Fr) (hf : x.fs[i]? = some f) (h1 : f.1 ≤ a) (h2 : a < f.1 + f.2) (hs : ∃ s, Fr s ∧ a < s) :
    Calls Tryz.prog 85 #[.pointer (some ⟨x.M, 0, none⟩), .int .i64 (i : Int), .agg #[.int .i64 (a : Int), .int .i64 1]] w fun e w' => e = .returned (.tuple #[]) ∧ NextX w base lo hi x (fun s => Fr s ∧ s ≠ a) w' := by
  obtain ⟨tg, tf⟩ := take_good h.good hf h1 h2
  have hn := h.len
  have hi' := (List.getElem?_eq_some_iff.1 hf).1
  have hfe := h.good.hi_ f (List.mem_of_getElem? hf)
  have h6 := h.h6
  obtain ⟨g, c, hv, hg, c0, c1⟩ := h.at_ hf
  have hnc : x.fs.length ≤ c := by obtain ⟨A', c', hv', h3, _⟩ := h.form; rw [hv] at hv'; injection hv' with _ _ e; omega
  have gk := h.mk_
  rw [hv] at gk
  have hb1 : (i : Int) < (x.fs.length : Int) := by omega
  obtain ⟨O1, hO1⟩ : ∃ O, O = Obj.cells #[.int .i64 (a : Int), .int .i64 1] 110 := ⟨_, rfl⟩
  obtain ⟨O2, hO2⟩ : ∃ O, O = Obj.cells #[.int .i64 (f.1 : Int), .int .i64 (f.2 : Int)] 110 := ⟨_, rfl⟩
  have B1 : Below w.heap.size w (w.alloc O1) := (Below.refl _ _).alloc (Nat.le_refl _) _
  have B2 : Below w.heap.size w ((w.alloc O1).alloc O2) := B1.alloc (by simp) _
  have bk1 : Blk (w.alloc O1) w.heap.size 110 #[.int .i64 (a : Int), .int .i64 1] := by rw [hO1]; exact Blk.new w _ _
  have bk2 := bk1.alloc O2
  have fk2 : Blk ((w.alloc O1).alloc O2) (w.heap.size + 1) 110 #[.int .i64 (f.1 : Int), .int .i64 (f.2 : Int)] := by have := Blk.new (w.alloc O1) 110 #[.int .i64 (f.1 : Int), .int .i64 (f.2 : Int)]; rw [hO2]; simpa using this
  have gk1 := gk.below B1 gk.lt
  have gk2 := gk.below B2 gk.lt
  have p1 : (w.alloc O1).cell? ⟨x.M, 2, none⟩ = some (.slice (some ⟨g, 0, none⟩) x.fs.length c) := gk1.at_ rfl
  have p2 : (w.alloc O1).cell? ⟨g, i * 2, none⟩ = some (.int .i64 (f.1 : Int)) := (B1.cell (p := ⟨g, i * 2, none⟩) hg).trans c0
  have p3 : (w.alloc O1).cell? ⟨g, i * 2 + 1, none⟩ = some (.int .i64 (f.2 : Int)) := (B1.cell (p := ⟨g, i * 2 + 1, none⟩) hg).trans c1
  have q1 : ((w.alloc O1).alloc O2).cell? ⟨w.heap.size, 0, none⟩ = some (.int .i64 (a : Int)) := bk2.at_ rfl
  have q2 : ((w.alloc O1).alloc O2).cell? ⟨w.heap.size, 1, none⟩ = some (.int .i64 1) := bk2.at_ rfl
  have q3 : ((w.alloc O1).alloc O2).cell? ⟨w.heap.size + 1, 0, none⟩ = some (.int .i64 (f.1 : Int)) := fk2.at_ rfl
  have q4 : ((w.alloc O1).alloc O2).cell? ⟨w.heap.size + 1, 1, none⟩ = some (.int .i64 (f.2 : Int)) := fk2.at_ rfl
  rw [hO2, hO1] at q1 q2 q3 q4
  rw [hO1] at p1 p2 p3
  have s1 : IntKind.i64.wrap ((a : Int) + 1) = (a : Int) + 1 := by rw [IntKind.wrap_i64]; omega
  have s2 : IntKind.i64.wrap ((f.1 : Int) + (f.2 : Int)) = (f.1 : Int) + (f.2 : Int) := by rw [IntKind.wrap_i64]; omega
  have s3 : IntKind.i64.wrap ((f.1 : Int) + (f.2 : Int) - ((a : Int) + 1)) = ((f.1 + f.2 - (a + 1) : Nat) : Int) := by rw [IntKind.wrap_i64]; omega
  have s5 : IntKind.i64.wrap ((a : Int) - (f.1 : Int)) = ((a - f.1 : Nat) : Int) := by rw [IntKind.wrap_i64]; omega
  have s4 : IntKind.i64.wrap ((i : Int) + 1) = (i : Int) + 1 := by rw [IntKind.wrap_i64]; omega
  have hi3 : (i : Int) + 1 ≤ (x.fs.length : Int) := by omega
  have hi4 : 0 ≤ (i : Int) + 1 := by omega
  have hic : i ≤ c := by omega
  have hi1 : i + 1 ≤ x.fs.length := by omega
  have HG : Hid (∀ w', Below w.heap.size w w' → w'.cell? ⟨x.M, 2, none⟩ = some (.slice (some ⟨g, 0, none⟩) x.fs.length c) ∧ w'.frozen? ⟨x.M, 2, none⟩ = false ∧ RV w' (if c = i + 1 then some ⟨g, 0, none⟩ else some ⟨g, (i + 1) * 2, none⟩) (eC (x.fs.drop (i + 1))) ∧ ∀ j u, (eC (x.fs.take i))[j]? = some u → w'.cell? ((⟨g, 0, none⟩ : Addr).add j) = some u) := by
    intro w' b
    have hb := h.below b
    have gk' := hb.mk_
    rw [hv] at gk'
    have row' := hb.row
    rw [hv] at row'
    refine ⟨gk'.at_ rfl, gk'.frozen 2, fun hne' => ?_, fun j u hu => ?_⟩
    · have hd : i + 1 < x.fs.length := by
        rcases Nat.lt_or_ge (i + 1) x.fs.length with h1 | h1
        · exact h1
        · exfalso; rw [List.drop_eq_nil_of_le h1] at hne'; exact hne' rfl
      refine ⟨g, (i + 1) * 2, by rw [if_neg (by omega)], (Nat.lt_of_lt_of_le hg b.size), fun j u hu => ?_⟩
      rw [eC_drop, List.getElem?_drop] at hu
      have := row'.cells (g := g) rfl _ _ hu
      rw [add_zero_off] at this
      exact this
    · rw [eC_take, List.getElem?_take] at hu
      split at hu
      · exact row'.cells (g := g) rfl _ _ hu
      · cases hu
  have HF : Hid (∀ (w3 w4 : World) (v4 : Value) (L : List Ex) (m : Nat), L = leftA f a ++ leftB f a → m = L.length + (x.fs.length - (i + 1)) → Below w.heap.size w w3 → w4.ownsRow w3.heap.size 110 2 v4 (i + m) (eC (x.fs.take i) ++ (eC L ++ eC (x.fs.drop (i + 1)))) → w3.grownBy w4 none → NextX w base lo hi x (fun s => Fr s ∧ s ≠ a) (w4.setCell ⟨x.M, 2, none⟩ v4)) := by
    rintro w3 w4 v4 L m rfl rfl b3 o4 gr4
    have b4 : Below w.heap.size w w4 := b3.grown gr4 b3.size (fun k hk => by cases hk)
    refine h.stored (fs := takeL x.fs i f a) b4 ?_ tg fun s => (tf s).trans (and_congr (h.fr s) Iff.rfl)
    have e1 : (takeL x.fs i f a).length = i + ((leftA f a ++ leftB f a).length + (x.fs.length - (i + 1))) := by
      unfold takeL
      simp only [List.length_append, List.length_take, List.length_drop]
      omega
    have e2 : eC (takeL x.fs i f a) = eC (x.fs.take i) ++ (eC (leftA f a ++ leftB f a) ++ eC (x.fs.drop (i + 1))) := by unfold takeL; rw [eC_append, eC_append]
    rw [e1, e2]
    exact own_low o4 b3.size
  have hne2 : 0 < (leftB f a).length + (x.fs.length - (i + 1)) := by
    obtain ⟨s, hs1, hs2⟩ := hs
    obtain ⟨y, hy, y1, y2⟩ := (h.fr s).2 hs1
    obtain ⟨k, hk⟩ := List.getElem?_of_mem hy
    have hk' := (List.getElem?_eq_some_iff.1 hk).1
    rcases Nat.lt_trichotomy k i with h3 | h3 | h3
    · have := h.good.rise hk hf h3; omega
    · subst h3
      obtain rfl := Option.some.inj (hk.symm.trans hf)
      unfold leftB
      rw [if_pos (by omega)]
      simp only [List.length_singleton]
      omega
    · omega
  have HQ : Hid (Below w.heap.size w (((w.alloc (Obj.cells #[.int .i64 (a : Int), .int .i64 1] 110)).alloc (Obj.cells #[.int .i64 (f.1 : Int), .int .i64 (f.2 : Int)] 110))) ∧ ∀ (w5 : World) (o : Obj), (((w.alloc (Obj.cells #[.int .i64 (a : Int), .int .i64 1] 110)).alloc (Obj.cells #[.int .i64 (f.1 : Int), .int .i64 (f.2 : Int)] 110)).alloc o).grownBy w5 none →
      w5.cell? ⟨w.heap.size, 0, none⟩ = some (.int .i64 (a : Int)) ∧ w5.cell? ⟨w.heap.size, 1, none⟩ = some (.int .i64 1) ∧ w5.cell? ⟨w.heap.size + 1, 0, none⟩ = some (.int .i64 (f.1 : Int)) ∧ w5.cell? ⟨w.heap.size + 1, 1, none⟩ = some (.int .i64 (f.2 : Int))) := by
    rw [← hO1, ← hO2]
    refine ⟨B2, fun w5 o gr => ?_⟩
    have b5 := (gr.block w.heap.size (by simp; omega) (by simp)).trans (bk2.alloc o)
    have f5 := (gr.block (w.heap.size + 1) (by simp) (by simp)).trans (fk2.alloc o)
    have b5' : Blk w5 w.heap.size 110 #[.int .i64 (a : Int), .int .i64 1] := b5
    have f5' : Blk w5 (w.heap.size + 1) 110 #[.int .i64 (f.1 : Int), .int .i64 (f.2 : Int)] := f5
    exact ⟨b5'.at_ rfl, b5'.at_ rfl, f5'.at_ rfl, f5'.at_ rfl⟩
  by_cases k1 : f.1 < a
  · have d1 : decide ((f.1 : Int) < (a : Int)) = true := decide_eq_true (by omega)
    have d1' : decide (f.1 < a) = true := decide_eq_true k1
    have hA : leftA f a = [(f.1, a - f.1)] := if_pos k1
    by_cases k2 : a + 1 < f.1 + f.2
    · have d2 : decide ((a : Int) + 1 < (f.1 : Int) + (f.2 : Int)) = true := decide_eq_true (by omega)
      have d2' : decide (a + 1 < f.1 + f.2) = true := decide_eq_true k2
      have hB : leftB f a = [(a + 1, f.1 + f.2 - (a + 1))] := if_pos k2
      have hL : ([(f.1, a - f.1), (a + 1, f.1 + f.2 - (a + 1))] : List Ex) = leftA f a ++ leftB f a := by rw [hA, hB]; rfl
      have HF2 := Lib.hid (fun w3 w4 v4 => HF.out w3 w4 v4 [(f.1, a - f.1), (a + 1, f.1 + f.2 - (a + 1))] (2 + (x.fs.length - (i + 1))) hL (by simp))
      have hpos : 0 < 2 + (x.fs.length - (i + 1)) := by omega
      clear HF hne2 hA hB hL k1 k2 tg tf hs
      go_enter Tryz.func85, Tryz.ntmps85
      go_wp2_with (first
        | ((with_reducible show wpList _ _ _ (⟨some 31, _, _, _, _, _⟩ :: _) _ _); refine wpList_append_rv el_ex rfl (.tmp 21) (.tmp 30) rfl w.heap.size (.slice none 0 0) 0 [] rfl (World.ownsRow_nil _ _ _ _) (some ⟨w.heap.size + 1 + 1, 0, none⟩) 1 1 (eC [(f.1, a - f.1)]) rfl rfl (by have := RV.new ((w.alloc (Obj.cells #[.int .i64 (a : Int), .int .i64 1] 110)).alloc (Obj.cells #[.int .i64 (f.1 : Int), .int .i64 (f.2 : Int)] 110)) (eC [(f.1, a - f.1)]) 110 (0, 0); simp only [World.size_alloc] at this; exact this) (eC_one _) (by decide) (by decide) (by simp; omega) ?_; intro v5 w5 own5 gr5 hv5; have bel5 : Below w.heap.size w w5 := ((HQ.out.1.alloc (by simp; omega) _).grown gr5 (by simp; omega) (fun k hk => by cases hk)); (obtain ⟨A5, c5, hv5f, _, _⟩ := own_form own5); subst hv5f; have r1 := (HQ.out.2 w5 _ gr5).1; have r2 := (HQ.out.2 w5 _ gr5).2.1; have r3 := (HQ.out.2 w5 _ gr5).2.2.1; have r4 := (HQ.out.2 w5 _ gr5).2.2.2)
        | ((with_reducible show wpList _ _ _ (⟨some 55, _, _, _, _, _⟩ :: _) _ _); refine wpList_append_rv el_ex rfl (.tmp 44) (.tmp 54) rfl w.heap.size (.slice A5 1 c5) 1 (eC [(f.1, a - f.1)]) rfl (own5.alloc _) (some ⟨w5.heap.size, 0, none⟩) 1 1 (eC [(a + 1, f.1 + f.2 - (a + 1))]) rfl rfl (RV.new w5 (eC [(a + 1, f.1 + f.2 - (a + 1))]) 110 (0, 0)) (eC_one _) (by decide) (by decide) (by have := bel5.size; simp; omega) ?_; intro v6 w6 own6 gr6 hv6; have bel6 : Below w.heap.size w w6 := ((bel5.alloc bel5.size _).grown gr6 (by have := bel5.size; simp; omega) (fun k hk => (own5.lt k hk).1)); (obtain ⟨A6, c6, hv6f, _, _⟩ := own_form own6); subst hv6f))
      clear q1 q2 q3 q4 p1 p2 p3 gk1 gk2 fk2 bk2 bk1 B1 B2 gk h hf c0 c1 hv HQ
      have own2 : w6.ownsRow w.heap.size 110 2 (.slice A6 2 c6) 2 (eC [(f.1, a - f.1), (a + 1, f.1 + f.2 - (a + 1))]) := own6
      have bel2 := bel6
      clear own5 bel5 gr5 hv5 r1 r2 r3 r4
      clear own6 bel6 gr6 hv6
      generalize w6 = w2 at *
      have p1 := (HG.out w2 bel2).1
      have pz := (HG.out w2 bel2).2.1
      go_region_law (first
        | (refine step_append_rv (base := w.heap.size) (v := .slice A6 2 c6) (n := 2) (m := x.fs.length - (i + 1)) (c := c - (i + 1)) (xs := eC [(f.1, a - f.1), (a + 1, f.1 + f.2 - (a + 1))]) (news := eC (x.fs.drop (i + 1))) el_ex rfl (.tmp 64) (.tmp 71) rfl rfl own2 rfl (by rw [eC_len, List.length_drop]) (HG.out w2 bel2).2.2.1 (eC_one _) (by unfold maxLen; omega) (by omega) bel2.size ?_; intro v3 w3 own3 gr3z hv3; have gr3 : w2.grownBy w3 (Value.ownBlock (.slice A6 2 c6)) := ⟨gr3z.os, gr3z.tape, gr3z.output, gr3z.size, gr3z.block⟩; clear gr3z; have bel3 : Below w.heap.size w w3 := bel2.grown gr3 bel2.size (fun k hk => (own2.lt k hk).1); (obtain ⟨A3, c3, hv3f, _, _⟩ := own_form own3); subst hv3f; have r3 := own_rvN own3; have p3 := (HG.out w3 bel3).1; have pz3 := (HG.out w3 bel3).2.1)
        | (refine step_append_grows (n := i) (cap := i) (b := ⟨g, 0, none⟩) (m := 2 + (x.fs.length - (i + 1))) (olds := eC (x.fs.take i)) (news := eC [(f.1, a - f.1), (a + 1, f.1 + f.2 - (a + 1))] ++ eC (x.fs.drop (i + 1))) el_ex rfl (.tmp 63) (.tmp 72) rfl rfl (by rw [eC_len, List.length_take]; omega) (HG.out w3 bel3).2.2.2 rfl (by simp only [List.length_append, eC_len, List.length_drop, List.length_nil, List.length_cons]; omega) r3 hpos (by omega) (by unfold maxLen; omega) (by omega) ?_; intro v4 w4 own4 gr4; have HE := Lib.hid (HF2.out w3 w4 v4 bel3 own4 gr4); have bel4 : Below w.heap.size w w4 := bel3.grown gr4 bel3.size (fun k hk => by cases hk); (obtain ⟨A4, c4, hv4f, _, _⟩ := own_form own4); subst hv4f; have p4 := (HG.out w4 bel4).1; have pz4 := (HG.out w4 bel4).2.1))
      all_goals
        go_wp2
        all_goals
          go_end0
          exact ⟨rfl, HE.out⟩
    · have d2 : decide ((a : Int) + 1 < (f.1 : Int) + (f.2 : Int)) = false := decide_eq_false (by omega)
      have d2' : decide (a + 1 < f.1 + f.2) = false := decide_eq_false k2
      have hB : leftB f a = [] := if_neg k2
      have hL : ([(f.1, a - f.1)] : List Ex) = leftA f a ++ leftB f a := by rw [hA, hB]; rfl
      have HF2 := Lib.hid (fun w3 w4 v4 => HF.out w3 w4 v4 [(f.1, a - f.1)] (1 + (x.fs.length - (i + 1))) hL (by simp))
      have hpos : 0 < 1 + (x.fs.length - (i + 1)) := by omega
      clear HF hne2 hA hB hL k1 k2 tg tf hs
      go_enter Tryz.func85, Tryz.ntmps85
      go_wp2_with ((with_reducible show wpList _ _ _ (⟨some 31, _, _, _, _, _⟩ :: _) _ _); refine wpList_append_rv el_ex rfl (.tmp 21) (.tmp 30) rfl w.heap.size (.slice none 0 0) 0 [] rfl (World.ownsRow_nil _ _ _ _) (some ⟨w.heap.size + 1 + 1, 0, none⟩) 1 1 (eC [(f.1, a - f.1)]) rfl rfl (by have := RV.new ((w.alloc (Obj.cells #[.int .i64 (a : Int), .int .i64 1] 110)).alloc (Obj.cells #[.int .i64 (f.1 : Int), .int .i64 (f.2 : Int)] 110)) (eC [(f.1, a - f.1)]) 110 (0, 0); simp only [World.size_alloc] at this; exact this) (eC_one _) (by decide) (by decide) (by simp; omega) ?_; intro v5 w5 own5 gr5 hv5; have bel5 : Below w.heap.size w w5 := ((HQ.out.1.alloc (by simp; omega) _).grown gr5 (by simp; omega) (fun k hk => by cases hk)); (obtain ⟨A5, c5, hv5f, _, _⟩ := own_form own5); subst hv5f; have r1 := (HQ.out.2 w5 _ gr5).1; have r2 := (HQ.out.2 w5 _ gr5).2.1; have r3 := (HQ.out.2 w5 _ gr5).2.2.1; have r4 := (HQ.out.2 w5 _ gr5).2.2.2)
      clear q1 q2 q3 q4 p1 p2 p3 gk1 gk2 fk2 bk2 bk1 B1 B2 gk h hf c0 c1 hv HQ
      have own2 : w5.ownsRow w.heap.size 110 2 (.slice A5 1 c5) 1 (eC [(f.1, a - f.1)]) := own5
      have bel2 := bel5
      clear own5 bel5 gr5 hv5 r1 r2 r3 r4
      generalize w5 = w2 at *
      have p1 := (HG.out w2 bel2).1
      have pz := (HG.out w2 bel2).2.1
      go_region_law (first
        | (refine step_append_rv (base := w.heap.size) (v := .slice A5 1 c5) (n := 1) (m := x.fs.length - (i + 1)) (c := c - (i + 1)) (xs := eC [(f.1, a - f.1)]) (news := eC (x.fs.drop (i + 1))) el_ex rfl (.tmp 64) (.tmp 71) rfl rfl own2 rfl (by rw [eC_len, List.length_drop]) (HG.out w2 bel2).2.2.1 (eC_one _) (by unfold maxLen; omega) (by omega) bel2.size ?_; intro v3 w3 own3 gr3z hv3; have gr3 : w2.grownBy w3 (Value.ownBlock (.slice A5 1 c5)) := ⟨gr3z.os, gr3z.tape, gr3z.output, gr3z.size, gr3z.block⟩; clear gr3z; have bel3 : Below w.heap.size w w3 := bel2.grown gr3 bel2.size (fun k hk => (own2.lt k hk).1); (obtain ⟨A3, c3, hv3f, _, _⟩ := own_form own3); subst hv3f; have r3 := own_rvN own3; have p3 := (HG.out w3 bel3).1; have pz3 := (HG.out w3 bel3).2.1)
        | (refine step_append_grows (n := i) (cap := i) (b := ⟨g, 0, none⟩) (m := 1 + (x.fs.length - (i + 1))) (olds := eC (x.fs.take i)) (news := eC [(f.1, a - f.1)] ++ eC (x.fs.drop (i + 1))) el_ex rfl (.tmp 63) (.tmp 72) rfl rfl (by rw [eC_len, List.length_take]; omega) (HG.out w3 bel3).2.2.2 rfl (by simp only [List.length_append, eC_len, List.length_drop, List.length_nil, List.length_cons]; omega) r3 hpos (by omega) (by unfold maxLen; omega) (by omega) ?_; intro v4 w4 own4 gr4; have HE := Lib.hid (HF2.out w3 w4 v4 bel3 own4 gr4); have bel4 : Below w.heap.size w w4 := bel3.grown gr4 bel3.size (fun k hk => by cases hk); (obtain ⟨A4, c4, hv4f, _, _⟩ := own_form own4); subst hv4f; have p4 := (HG.out w4 bel4).1; have pz4 := (HG.out w4 bel4).2.1))
      all_goals
        go_wp2
        all_goals
          go_end0
          exact ⟨rfl, HE.out⟩
  · have d1 : decide ((f.1 : Int) < (a : Int)) = false := decide_eq_false (by omega)
    have d1' : decide (f.1 < a) = false := decide_eq_false k1
    have hA : leftA f a = [] := if_neg k1
    by_cases k2 : a + 1 < f.1 + f.2
    · have d2 : decide ((a : Int) + 1 < (f.1 : Int) + (f.2 : Int)) = true := decide_eq_true (by omega)
      have d2' : decide (a + 1 < f.1 + f.2) = true := decide_eq_true k2
      have hB : leftB f a = [(a + 1, f.1 + f.2 - (a + 1))] := if_pos k2
      have hL : ([(a + 1, f.1 + f.2 - (a + 1))] : List Ex) = leftA f a ++ leftB f a := by rw [hA, hB]; rfl
      have HF2 := Lib.hid (fun w3 w4 v4 => HF.out w3 w4 v4 [(a + 1, f.1 + f.2 - (a + 1))] (1 + (x.fs.length - (i + 1))) hL (by simp))
      have hpos : 0 < 1 + (x.fs.length - (i + 1)) := by omega
      clear HF hne2 hA hB hL k1 k2 tg tf hs
      go_enter Tryz.func85, Tryz.ntmps85
      go_wp2_with ((with_reducible show wpList _ _ _ (⟨some 55, _, _, _, _, _⟩ :: _) _ _); refine wpList_append_rv el_ex rfl (.tmp 44) (.tmp 54) rfl w.heap.size (.slice none 0 0) 0 [] rfl (World.ownsRow_nil _ _ _ _) (some ⟨w.heap.size + 1 + 1, 0, none⟩) 1 1 (eC [(a + 1, f.1 + f.2 - (a + 1))]) rfl rfl (by have := RV.new ((w.alloc (Obj.cells #[.int .i64 (a : Int), .int .i64 1] 110)).alloc (Obj.cells #[.int .i64 (f.1 : Int), .int .i64 (f.2 : Int)] 110)) (eC [(a + 1, f.1 + f.2 - (a + 1))]) 110 (0, 0); simp only [World.size_alloc] at this; exact this) (eC_one _) (by decide) (by decide) (by simp; omega) ?_; intro v5 w5 own5 gr5 hv5; have bel5 : Below w.heap.size w w5 := ((HQ.out.1.alloc (by simp; omega) _).grown gr5 (by simp; omega) (fun k hk => by cases hk)); (obtain ⟨A5, c5, hv5f, _, _⟩ := own_form own5); subst hv5f; have r1 := (HQ.out.2 w5 _ gr5).1; have r2 := (HQ.out.2 w5 _ gr5).2.1; have r3 := (HQ.out.2 w5 _ gr5).2.2.1; have r4 := (HQ.out.2 w5 _ gr5).2.2.2)
      clear q1 q2 q3 q4 p1 p2 p3 gk1 gk2 fk2 bk2 bk1 B1 B2 gk h hf c0 c1 hv HQ
      have own2 : w5.ownsRow w.heap.size 110 2 (.slice A5 1 c5) 1 (eC [(a + 1, f.1 + f.2 - (a + 1))]) := own5
      have bel2 := bel5
      clear own5 bel5 gr5 hv5 r1 r2 r3 r4
      generalize w5 = w2 at *
      have p1 := (HG.out w2 bel2).1
      have pz := (HG.out w2 bel2).2.1
      go_region_law (first
        | (refine step_append_rv (base := w.heap.size) (v := .slice A5 1 c5) (n := 1) (m := x.fs.length - (i + 1)) (c := c - (i + 1)) (xs := eC [(a + 1, f.1 + f.2 - (a + 1))]) (news := eC (x.fs.drop (i + 1))) el_ex rfl (.tmp 64) (.tmp 71) rfl rfl own2 rfl (by rw [eC_len, List.length_drop]) (HG.out w2 bel2).2.2.1 (eC_one _) (by unfold maxLen; omega) (by omega) bel2.size ?_; intro v3 w3 own3 gr3z hv3; have gr3 : w2.grownBy w3 (Value.ownBlock (.slice A5 1 c5)) := ⟨gr3z.os, gr3z.tape, gr3z.output, gr3z.size, gr3z.block⟩; clear gr3z; have bel3 : Below w.heap.size w w3 := bel2.grown gr3 bel2.size (fun k hk => (own2.lt k hk).1); (obtain ⟨A3, c3, hv3f, _, _⟩ := own_form own3); subst hv3f; have r3 := own_rvN own3; have p3 := (HG.out w3 bel3).1; have pz3 := (HG.out w3 bel3).2.1)
        | (refine step_append_grows (n := i) (cap := i) (b := ⟨g, 0, none⟩) (m := 1 + (x.fs.length - (i + 1))) (olds := eC (x.fs.take i)) (news := eC [(a + 1, f.1 + f.2 - (a + 1))] ++ eC (x.fs.drop (i + 1))) el_ex rfl (.tmp 63) (.tmp 72) rfl rfl (by rw [eC_len, List.length_take]; omega) (HG.out w3 bel3).2.2.2 rfl (by simp only [List.length_append, eC_len, List.length_drop, List.length_nil, List.length_cons]; omega) r3 hpos (by omega) (by unfold maxLen; omega) (by omega) ?_; intro v4 w4 own4 gr4; have HE := Lib.hid (HF2.out w3 w4 v4 bel3 own4 gr4); have bel4 : Below w.heap.size w w4 := bel3.grown gr4 bel3.size (fun k hk => by cases hk); (obtain ⟨A4, c4, hv4f, _, _⟩ := own_form own4); subst hv4f; have p4 := (HG.out w4 bel4).1; have pz4 := (HG.out w4 bel4).2.1))
      all_goals
        go_wp2
        all_goals
          go_end0
          exact ⟨rfl, HE.out⟩
    · have d2 : decide ((a : Int) + 1 < (f.1 : Int) + (f.2 : Int)) = false := decide_eq_false (by omega)
      have d2' : decide (a + 1 < f.1 + f.2) = false := decide_eq_false k2
      have hB : leftB f a = [] := if_neg k2
      have hL : ([] : List Ex) = leftA f a ++ leftB f a := by rw [hA, hB]; rfl
      have HF2 := Lib.hid (fun w3 w4 v4 => HF.out w3 w4 v4 [] (x.fs.length - (i + 1)) hL (by simp))
      have hpos : 0 < x.fs.length - (i + 1) := by
        rw [hB] at hne2
        simpa using hne2
      clear HF hne2 hA hB hL k1 k2 tg tf hs
      go_enter Tryz.func85, Tryz.ntmps85
      go_wp2_with fail
      have bel2 := B2
      rw [hO2, hO1] at bel2
      clear q1 q2 q3 q4 p1 p2 p3 gk1 gk2 fk2 bk2 bk1 B1 B2 gk h hf c0 c1 hv HQ
      generalize ((w.alloc (Obj.cells #[.int .i64 (a : Int), .int .i64 1] 110)).alloc (Obj.cells #[.int .i64 (f.1 : Int), .int .i64 (f.2 : Int)] 110)) = w2 at *
      have own2 : w2.ownsRow w.heap.size 110 2 (.slice none 0 0) 0 (eC []) := World.ownsRow_nil _ _ _ _
      have p1 := (HG.out w2 bel2).1
      have pz := (HG.out w2 bel2).2.1
      go_region_law (first
        | (refine step_append_rv (base := w.heap.size) (v := .slice none 0 0) (n := 0) (m := x.fs.length - (i + 1)) (c := c - (i + 1)) (xs := eC []) (news := eC (x.fs.drop (i + 1))) el_ex rfl (.tmp 64) (.tmp 71) rfl rfl own2 rfl (by rw [eC_len, List.length_drop]) (HG.out w2 bel2).2.2.1 (eC_one _) (by unfold maxLen; omega) (by omega) bel2.size ?_; intro v3 w3 own3 gr3z hv3; have gr3 : w2.grownBy w3 (Value.ownBlock (.slice none 0 0)) := ⟨gr3z.os, gr3z.tape, gr3z.output, gr3z.size, gr3z.block⟩; clear gr3z; have bel3 : Below w.heap.size w w3 := bel2.grown gr3 bel2.size (fun k hk => (own2.lt k hk).1); (obtain ⟨A3, c3, hv3f, _, _⟩ := own_form own3); subst hv3f; have r3 := own_rvN own3; have p3 := (HG.out w3 bel3).1; have pz3 := (HG.out w3 bel3).2.1)
        | (refine step_append_grows (n := i) (cap := i) (b := ⟨g, 0, none⟩) (m := x.fs.length - (i + 1)) (olds := eC (x.fs.take i)) (news := eC [] ++ eC (x.fs.drop (i + 1))) el_ex rfl (.tmp 63) (.tmp 72) rfl rfl (by rw [eC_len, List.length_take]; omega) (HG.out w3 bel3).2.2.2 rfl (by simp only [List.length_append, eC_len, List.length_drop, List.length_nil]; omega) r3 hpos (by omega) (by unfold maxLen; omega) (by omega) ?_; intro v4 w4 own4 gr4; have HE := Lib.hid (HF2.out w3 w4 v4 bel3 own4 gr4); have bel4 : Below w.heap.size w w4 := bel3.grown gr4 bel3.size (fun k hk => by cases hk); (obtain ⟨A4, c4, hv4f, _, _⟩ := own_form own4); subst hv4f; have p4 := (HG.out w4 bel4).1; have pz4 := (HG.out w4 bel4).2.1))
      all_goals
        go_wp2
        all_goals
          go_end0
          exact ⟨rfl, HE.out⟩
end Go.Proofs.YtendnkklbeiegaaGreatDoor
