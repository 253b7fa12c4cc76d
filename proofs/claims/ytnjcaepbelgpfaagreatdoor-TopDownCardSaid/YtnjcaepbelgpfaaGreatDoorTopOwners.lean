/-
  Walk: who has an object, in order.
-/
import Derived.Test.YtnjcaepbelgpfaaGreatDoorTopMem
import Derived.Deep.CutRange
import Derived.Deep.CutBlock
import Derived.Deep.RegionHeld
import Derived.Test.YtnjcaepbelgpfaaGreatDoorCutQ
namespace Go.Proofs.YtnjcaepbelgpfaaGreatDoor
open Go.RowKit Go.Maps Go.WideMaps TopP

/-- What the loop holds. -/
structure OwnW (w wr : World) (mb : Nat) (v : Value) (out : List Txt) (F : Value → Option Value) : Prop where
  own : wr.ownsRow w.heap.size 9 1 v out.length (out.map sV)
  map : MapV wr 9 mb out.length F
  say : ∀ t, F (sV t) = if t ∈ out then some (.bool true) else none
  ne : ∀ g, v.ownBlock = some g → g ≠ mb
  bel : Below w.heap.size w wr
theorem OwnW.below {w wr w' : World} {mb : Nat} {v : Value} {out : List Txt} {F : Value → Option Value} (h : OwnW w wr mb v out F) (d : Below wr.heap.size wr w') : OwnW w w' mb v out F :=
  ⟨own_below h.own d (fun j hj => (h.own.lt j hj).2), h.map.below d h.map.lt, h.say, h.ne, h.bel.trans (d.mono h.bel.size)⟩
/-- A name that was not there is put behind. -/
theorem OwnW.more {w wr w1 w2 : World} {mb : Nat} {v v' : Value} {out : List Txt} {F : Value → Option Value} {t : Txt} (h : OwnW w wr mb v out F) (hmb : w.heap.size ≤ mb) (ht : t ∉ out)
    (o : w1.ownsRow w.heap.size 9 1 v' (out.length + 1) (out.map sV ++ [sV t])) (g1 : wr.grownBy w1 v.ownBlock) (hv : v'.ownBlock = v.ownBlock ∨ v'.ownBlock = some wr.heap.size)
    (m : MapV w2 9 mb (if (F (sV t)).isSome then out.length else out.length + 1) (setM F (sV t) (some (.bool true)))) (g2 : w1.grownBy w2 (some mb)) : OwnW w w2 mb v' (out ++ [t]) (setM F (sV t) (some (.bool true))) := by
  have hml := h.map.lt
  have hne : ∀ g, v'.ownBlock = some g → g ≠ mb := fun g hg => by
    rcases hv with e | e
    · exact h.ne g (e ▸ hg)
    · rw [e] at hg; have := Option.some.inj hg; omega
  have e0 : F (sV t) = none := by rw [h.say t, if_neg ht]
  rw [e0] at m
  have hl : (out ++ [t]).length = out.length + 1 := by simp
  refine ⟨?_, ?_, fun s => ?_, hne, ?_⟩
  · rw [hl, List.map_append]
    exact own_frame o fun j hj => g2.block j (o.lt j hj).2 fun q => hne j hj (Option.some.inj q)
  · rw [hl]; exact m
  · by_cases e : s = t
    · subst e
      rw [setM_same, if_pos (by simp)]
    · rw [setM_other _ (fun q => e (sV_inj q)), h.say s]
      have : (s ∈ out ++ [t]) ↔ s ∈ out := by simp [e]
      simp only [this]
  · exact Below.grown (Below.grown h.bel g1 h.bel.size fun j hj => (h.own.lt j hj).1) g2 (Nat.le_trans h.bel.size g1.size) fun j hj => by have := Option.some.inj hj; omega
theorem ownGo_stop {l : List Txt} {f m i : Nat} {out : List Txt} : ∀ r, m ≤ out.length → ownGo l f m r i out = out
  | 0, _ => rfl
  | r + 1, h => by rw [ownGo, if_pos h]
theorem ownGo_in {l : List Txt} {f m r i : Nat} {out : List Txt} (h : ¬ m ≤ out.length) (hr : 0 < r) (hx : l.getD ((f + i) % l.length) default ∈ out) : ownGo l f m r i out = ownGo l f m (r - 1) (i + 1) out := by
  cases r with
  | zero => omega
  | succ r => rw [ownGo, if_neg h, if_pos hx]; rfl
theorem ownGo_new {l : List Txt} {f m r i : Nat} {out : List Txt} (h : ¬ m ≤ out.length) (hr : 0 < r) (hx : l.getD ((f + i) % l.length) default ∉ out) : ownGo l f m r i out = ownGo l f m (r - 1) (i + 1) (out ++ [l.getD ((f + i) % l.length) default]) := by
  cases r with
  | zero => omega
  | succ r => rw [ownGo, if_neg h, if_neg hx]; rfl
/-- Who has an object o, in order. -/
def ownersOf (L : List Pt) (o : Txt) (m : Nat) : List Txt := ownersL (L.map (·.2)) (bsI L (hashF o 14695981039346656037)) m
set_option maxRecDepth 100000 in
set_option maxHeartbeats 1600000 in
theorem owners_calls (o : Txt) (ho : o.length ≤ 1000) (n : Nat) (_hn : n ≤ 1000) (w : World) (r m : Nat) (L : List Pt) (h : RingR w r m L) (_hm : m ≤ 1000) (hL : L.length ≤ 100000) (hs : ∀ p ∈ L, p.2.length ≤ 1000) :
    Calls Tryz.prog 14 #[.pointer (some ⟨r, 0, none⟩), .string (bstr o), .int .i64 n] w fun e w' => ∃ A c, e = .returned (.slice A (ownersOf L o (min n m)).length c) ∧ RV w' A ((ownersOf L o (min n m)).map sV) ∧ Below w.heap.size w w' := by
  obtain ⟨mb0, A, c, F0, hb, hM, hR⟩ := h
  have HH := fun w => (hash_calls o ho w).mono (fun _ _ h => (⟨h.1, h.2.symm⟩ : _ ∧ w = _))
  obtain ⟨hsh, hhs⟩ : ∃ x, x = hashF o 14695981039346656037 := ⟨_, rfl⟩
  have HS := fun w' (d : Below w.heap.size w w') => search_calls L hL A c hsh w' (hR.below d)
  obtain ⟨fi, hfi⟩ : ∃ x, x = bsI L hsh := ⟨_, rfl⟩
  obtain ⟨res, hres⟩ : ∃ x, x = ownersOf L o (min n m) := ⟨_, rfl⟩
  rw [← hres]
  unfold ownersOf ownersL at hres
  rw [← hhs] at HH hres
  rw [← hfi] at HS hres
  have hfl : fi ≤ L.length := by rw [hfi]; exact bsI_le L hsh
  clear hhs hfi
  rw [List.length_map] at hres
  replace hres := Lib.hid hres
  have c1 := hb.at_ (i := 1) (v := .map (some mb0)) rfl
  have c2 := hb.at_ (i := 2) (v := .slice A L.length c) rfl
  go_enter Tryz.func14, Tryz.ntmps14
  go_upto_region 1 with fail
  have hBg := fun x => grow_below w x
  have g1 := fun x => (hb.below (hBg x) hb.lt).at_ (i := 1) (v := .map (some mb0)) rfl
  have g2 := fun x => (hb.below (hBg x) hb.lt).at_ (i := 2) (v := .slice A L.length c) rfl
  with_reducible refine wp_region_grow rfl (by kernel_rfl) ?_
  repeat (first | go_big_quiet_step (fail) | go_big_quiet_step (exact calls_grow_same (HH _)) | go_big_quiet_step (exact calls_grow (HS _ (grow_below _ _))))
  refine wpQuiet_nil ?_
  rintro w0 ⟨r0, hw0⟩
  have b0 := grow_below w r0
  rw [← hw0] at b0
  clear hw0 hBg g1 g2 HS HH c1 c2
  have m1 := MapV.made w0 9
  have B1 : Below w.heap.size w (w0.alloc (.map #[] 0)) := b0.alloc b0.size _
  have hmm := @run_makeMap Tryz.prog
  go_upto_region 4 with fail
  have S0 : OwnW w (w0.alloc (.map #[] 0)) w0.heap.size (.slice none 0 0) [] (fun _ => none) := ⟨World.ownsRow_nil _ _ _ _, m1, fun t => rfl, fun g h => (by cases h), B1⟩
  have hmb : w.heap.size ≤ w0.heap.size := b0.size
  revert S0
  generalize hw1 : w0.alloc (.map #[] 0) = w1
  generalize w0.heap.size = mb at *
  clear hw1 m1 B1 b0 hmm
  intro S0
  have hBw := S0.bel
  have c1 := (hb.below hBw hb.lt).at_ (i := 1) (v := .map (some mb0)) rfl
  have c2 := (hb.below hBw hb.lt).at_ (i := 2) (v := .slice A L.length c) rfl
  go_wp2_with fail
  go_loopw [9, 29] (fun v i wr => ∃ (k : Nat) (out : List Txt) (F : Value → Option Value), k ≤ L.length ∧ i = .int .i64 (k : Int) ∧ Hid (res = ownGo (L.map (·.2)) fi (min n m) (L.length - k) k out) ∧ out.length ≤ k ∧ OwnW w wr mb v out F) (fun _ i _ => L.length - (intOf i).toNat)
  case atStart => exact ⟨0, [], _, Nat.zero_le _, rfl, hres, Nat.le_refl _, S0⟩
  case round =>
  clear hres S0 c1 c2 hBw
  obtain ⟨k, out, F, hk, rfl, hR1, hol, S⟩ := hrel
  obtain ⟨A1, cc, hv, hnc, hcm⟩ := own_form S.own
  subst hv
  by_cases hlt : k < L.length
  case neg =>
    obtain rfl : k = L.length := by omega
    have dec : decide ((L.length : Int) < (L.length : Int)) = false := decide_eq_false (by omega)
    have hR2 := hR1.out
    rw [Nat.sub_self] at hR2
    have hR3 : Hid (res = out) := hR2
    clear hR1 hR2
    go_wp2_with fail
    go_ret
    exact ⟨A1, cc, by rw [hR3.out]; rfl, by rw [hR3.out]; exact RV.of_own S.own, S.bel⟩
  have dec : decide ((k : Int) < (L.length : Int)) = true := decide_eq_true (by omega)
  have dec' : decide (k < L.length) = true := decide_eq_true hlt
  have hbr := hb.below S.bel hb.lt
  have c1 := hbr.at_ (i := 1) (v := .map (some mb0)) rfl
  have c2 := hbr.at_ (i := 2) (v := .slice A L.length c) rfl
  have hMr := hM.below S.bel hM.lt
  go_upto_region 7 with fail
  with_reducible refine wp_region_lit ?_
  with_reducible refine wpList_cutAt 7 ?_
  simp only [List.take_succ_cons, List.take_zero, List.drop_succ_cons, List.drop_zero]
  go_wp2_with fail
  with_reducible refine CutQ.go_ ?_
  with_reducible refine wpList_len_V rfl (.tmp 38) 56 9 3 rfl Tryz.underlying56 mb0 m F0 (by kernel_rfl) hMr ?_
  go_frame
  by_cases hst : min n m ≤ out.length
  · have d1 : min (n : Int) (m : Int) ≤ (out.length : Int) := by omega
    have hR3 : Hid (res = out) := by show _ = _; rw [hR1.out, ownGo_stop _ hst]
    clear hR1
    go_wp2_with fail
    go_ret
    exact ⟨A1, cc, by rw [hR3.out]; rfl, by rw [hR3.out]; exact RV.of_own S.own, S.bel⟩
  have d1 : ¬ min (n : Int) (m : Int) ≤ (out.length : Int) := by omega
  have hL0 : 0 < L.length := by omega
  have hj : (fi + k) % L.length < L.length := Nat.mod_lt _ hL0
  have hg : (L.map (·.2)).getD ((fi + k) % (L.map (·.2)).length) default = (L[(fi + k) % L.length]).2 := by
    rw [List.length_map]
    simp [List.getD, hj]
  have hsj := hs _ (List.getElem_mem hj)
  obtain ⟨b, off, hA, hbs, e0, e1⟩ := pt_at (hR.below S.bel) hj
  subst hA
  have ej : (((fi : Int) + (k : Int)).tmod (L.length : Int)) = (((fi + k) % L.length : Nat) : Int) := by
    rw [← Int.natCast_add]
    exact Int.ofNat_tmod _ _
  generalize (fi + k) % L.length = j at *
  generalize L[j] = x at *
  obtain ⟨x1, x2⟩ := x
  have hR2 : Hid (x2 ∈ out → res = ownGo (L.map (·.2)) fi (min n m) (L.length - (k + 1)) (k + 1) out) := fun hx => by
    rw [hR1.out, ownGo_in hst (by omega) (by rw [hg]; exact hx)]
    rfl
  have hR3 : Hid (x2 ∉ out → res = ownGo (L.map (·.2)) fi (min n m) (L.length - (k + 1)) (k + 1) (out ++ [x2])) := fun hx => by
    rw [hR1.out, ownGo_new hst (by omega) (by rw [hg]; exact hx), hg]
    rfl
  clear hR1 hg
  go_upto_region 8 with fail
  have hrs : r < wr.heap.size := hbr.lt
  have ex : L.length ≠ 0 := by omega
  have wk : IntKind.i64.wrap ((fi : Int) + (k : Int)) = (fi : Int) + (k : Int) := by rw [IntKind.wrap_i64]; omega
  clear c1 hMr
  go_region_held (fun wq => wq.cell? ⟨r, 2, none⟩ = some (.slice (some ⟨b, off, none⟩) L.length c) ∧ wq.cell? ⟨b, off + j * 2, none⟩ = some (.int .u64 x1) ∧ wq.cell? ⟨b, off + j * 2 + 1, none⟩ = some (.string (bstr x2))) (first | go_keep) (fail)
  have bP0 := Blk.new wr 64 #[.int .u64 x1, .string (bstr x2)]
  have dP0 := (Below.refl wr.heap.size wr).alloc (Nat.le_refl _) (.cells #[.int .u64 x1, .string (bstr x2)] 64)
  have bP := bP0.drew
  have dP := dP0.drew
  revert bP dP
  clear bP0 dP0
  generalize (wr.alloc (.cells #[.int .u64 x1, .string (bstr x2)] 64)).drew = w2
  intro bP dP
  have S2 := S.below dP
  have hPm : wr.heap.size ≠ mb := by have := S.map.lt; omega
  have hPo : ∀ g, (Value.slice A1 out.length cc).ownBlock = some g → g ≠ wr.heap.size := fun g hg => by have := (S.own.lt g hg).2; omega
  have hPw : w.heap.size ≤ wr.heap.size := S.bel.size
  obtain ⟨gP, hgP⟩ : ∃ g, g = wr.heap.size := ⟨_, rfl⟩
  rw [← hgP] at bP hPm hPo hPw ⊢
  replace hPo := Lib.hid hPo
  clear hgP S dP c2 e0 e1 ej hrs ex wk hbs hbr
  have p1 := bP.at_ (i := 1) (v := .string (bstr x2)) rfl
  obtain ⟨kl, hkl⟩ := key_sV (s := x2) hsj
  have hsay := S2.say x2
  go_upto_region 9 with fail
  with_reducible refine wp_region_lit ?_
  with_reducible refine wpList_cutAt 3 ?_
  simp only [List.take_succ_cons, List.take_zero, List.drop_succ_cons, List.drop_zero]
  go_wp2_with fail
  with_reducible refine CutQ.go_ ?_
  with_reducible refine wpList_look_V rfl (.tmp 57) (.tmp 59) 83 9 4 rfl strKeyed Tryz.underlying83 (.bool false) zeroB mb out.length F (by kernel_rfl) S2.map (sV x2) kl (by kernel_rfl) hkl ?_
  by_cases hin : x2 ∈ out
  · rw [if_pos hin] at hsay
    rw [hsay]
    have hR4 := Lib.hid (hR2.out hin)
    clear hR2 hR3 hsay
    simp only [Option.getD_some]
    go_frame
    go_wp2_with fail
    refine ⟨⟨k + 1, out, F, by omega, by rw [show ((k : Int) + 1) = ((k + 1 : Nat) : Int) by omega], hR4, by omega, S2⟩, ?_⟩
    rw [show ((k : Int) + 1) = ((k + 1 : Nat) : Int) by omega]
    simp only [intOf, Int.toNat_natCast]
    omega
  rw [if_neg hin] at hsay
  rw [hsay]
  have hR4 := Lib.hid (hR3.out hin)
  clear hR2 hR3 hsay
  simp only [Option.getD_none]
  go_frame
  go_upto_region 10 with fail
  have rv1 : RV (w2.alloc (.cells #[.string (bstr x2)] 9)) (some ⟨w2.heap.size, 0, none⟩) [sV x2] := RV.new w2 [sV x2] 9 (0, 0)
  have S3 := S2.below ((Below.refl w2.heap.size w2).alloc (Nat.le_refl _) (.cells #[.string (bstr x2)] 9))
  have bP3 := bP.alloc (.cells #[.string (bstr x2)] 9)
  with_reducible refine wp_region_lit ?_
  with_reducible refine wpList_cutAt 4 ?_
  simp only [List.take_succ_cons, List.take_zero, List.drop_succ_cons, List.drop_zero]
  go_wp2_with fail
  with_reducible refine CutQ.go_ ?_
  with_reducible refine wpList_append_rv el_str (by kernel_rfl) (.tmp 62) (.tmp 65) rfl w.heap.size (.slice A1 out.length cc) out.length (out.map sV) (by kernel_rfl) S3.own (some ⟨w2.heap.size, 0, none⟩) 1 1 [sV x2] (by kernel_rfl) rfl rv1 (sV_one x2) ?f2 ?f3 ?f4 ?_
  case f2 => unfold maxLen; omega
  case f3 => omega
  case f4 => exact S3.bel.size
  intro v6 w6 own6 gr6 hv6
  have bP6 : Blk w6 gP 64 #[.int .u64 x1, .string (bstr x2)] := (gr6.block gP bP3.lt fun q => hPo.out gP q.symm rfl).trans bP3
  have m6 := S3.map.kept gr6 (fun q => S3.ne mb q.symm rfl)
  have p6 := bP6.at_ (i := 1) (v := .string (bstr x2)) rfl
  obtain ⟨A6, c6, hv6f, _, _⟩ := own_form own6
  subst hv6f
  go_frame
  clear p1 rv1 bP bP3 bP6 S2
  go_upto_region 11 with fail
  with_reducible refine wp_region_lit ?_
  with_reducible refine wpList_cutAt 3 ?_
  simp only [List.take_succ_cons, List.take_zero, List.drop_succ_cons, List.drop_zero]
  go_wp2_with fail
  with_reducible refine CutQ.go_ ?_
  with_reducible refine wpList_store_V rfl (.tmp 67) (.tmp 69) (.const (.bool true)) 83 9 4 rfl strKeyed Tryz.underlying83 mb out.length F (by kernel_rfl) m6 (by omega) (sV x2) (.bool true) kl (by kernel_rfl) rfl hkl ?_
  intro w7 m7 g7
  have S7 := S3.more hmb hin own6 gr6 hv6 m7 g7
  clear m7 g7 own6 gr6 hv6 m6 S3 p6 hkl
  have hl7 : (out ++ [x2]).length = out.length + 1 := by simp
  go_frame
  go_wp2_with fail
  refine ⟨⟨k + 1, out ++ [x2], _, by omega, by rw [show ((k : Int) + 1) = ((k + 1 : Nat) : Int) by omega], hR4, by omega, S7⟩, ?_⟩
  rw [show ((k : Int) + 1) = ((k + 1 : Nat) : Int) by omega]
  simp only [intOf, Int.toNat_natCast]
  omega
end Go.Proofs.YtnjcaepbelgpfaaGreatDoor
