/-
  The walk of a log's Add.
-/
import Derived.Test.YtdcjljlppeighaaDoorPurgeLog
import Derived.Deep.RegionLaw
namespace Go.Proofs.YtdcjljlppeighaaDoor
open Go.RowKit PurgeP

/-- append of what can be read onto a row of the call's own, as one step of a region that draws. -/
theorem step_append_rv {P : Program} {w : World} {base : Nat} {t e : TypeId} {z : Value} {size bytes n m c : Nat} {v : Value} {xs news : List Value} {A : Option Addr} {ops : Array Oper} {o : Oper} {a : Act} {K : Act → World → Prop} {Q : Exit → Act → World → Prop} {E : Prop}
    (El0 : El P t e z size bytes) (hg : o.guard = none) (s x : Operand)
    (ho : o.op = .call { callee := .builtin .append, args := #[s, x], argTypes := #[t, t] })
    (hs : a.eval s = v) (hown : w.ownsRow base e size v n xs)
    (hx : a.eval x = .slice A m c) (hl : news.length = m * size) (hr : RV w A news) (h1 : ∀ u ∈ news, u.oneCell' = true)
    (h63 : n + m ≤ maxLen) (hbytes : (n + m) * bytes ≤ 140737488355328) (hbase : base ≤ w.heap.size)
    (hK : ∀ v' w', w'.ownsRow base e size v' (n + m) (xs ++ news) → w.grownBy w' v.ownBlock → (v'.ownBlock = v.ownBlock ∨ v'.ownBlock = some w.heap.size) → K (a.put o.dst v') w') :
    if Region.wanted o (yielded ops a.tmps) = true then Oper.wp P o a w K Q else E := by
  have hw : Region.wanted o (yielded ops a.tmps) = true := by simp [Region.wanted, hg]
  rw [if_pos hw]
  obtain ⟨v', w', hrun, h2, h3, h4⟩ := run_append_rv (P := P) (w := w) (ty := o.type) (c := c) El0 hown hl hr h1 h63 hbytes hbase
  unfold Oper.wp execOp
  simp only [ho, resolve, invoke, builtin, Sem.run_bind, Sem.run_pure, Result.andThen_ok, List.map_toArray, List.map_cons, List.map_nil, hs, hx, hrun]
  exact hK _ _ h2 h3 h4
theorem info_line : (Tryd.prog.info? 54).map (fun i => (i.zero, i.size, i.bytes)) = some (some (.agg #[.int .i64 0, .slice none 0 0, .bool false]), 3, 40) := by kernel_rfl
theorem el_line : El Tryd.prog 37 54 (.agg #[.int .i64 0, .slice none 0 0, .bool false]) 3 40 := ⟨info_parts info_line, Tryd.underlying37, rfl, by decide⟩
theorem NextL.after {w w1 w' : World} {base : Nat} {X : Nat → Prop} {y : LogR} {S : PLog} (b : Below w.heap.size w w1) (h : NextL w1 base X y S w') : NextL w base X y S w' := by
  obtain ⟨y', h1, h2, h3, h4, h5⟩ := h
  exact ⟨y', h1, h2, h3, (Kept.of_below b _).trans h4, fun k hk => (h5 k hk).imp id fun hl => Nat.le_trans b.size hl⟩
/-- The log with one line more. -/
theorem LogOK.push {w w3 w4 : World} {base : Nat} {X : Nat → Prop} {y : LogR} (h : LogOK w base X y) (_hbase : base ≤ w.heap.size) (hX : ∀ k, X k → k < w.heap.size) {x : LnR} {v : Value} {N : Nat}
    (b3 : Below w.heap.size w w3) (hN : w.heap.size ≤ N) (_hN3 : N ≤ w3.heap.size) (o3 : w3.ownsRow N 9 1 (.slice x.A x.keys.length x.cap) x.keys.length (cS x.keys))
    (own4 : w4.ownsRow base 54 3 v (y.ls.length + 1) (lC y.ls ++ x.cells)) (gr : w3.grownBy w4 y.v.ownBlock) (hv : v.ownBlock = y.v.ownBlock ∨ v.ownBlock = some w3.heap.size)
    (hr : rightB x.abs = true) (hno : x.no = y.abs.now + 1) : NextL w base X y ⟨y.floor, y.abs.ls ++ [x.abs]⟩ (w4.setCell ⟨y.D, 1, none⟩ v) := by
  have h3 := h.below b3
  have hDlt := h3.dk.lt
  have hvlt : ∀ k, y.v.ownBlock = some k → base ≤ k ∧ k < w.heap.size := fun k hk => h.rk.lt k hk
  have hDw := h.dk.lt
  obtain ⟨A, c, rfl, hnc, hcm⟩ := own_form own4
  have hne : y.D ≠ w3.heap.size := by omega
  have hnD : (Value.slice A (y.ls.length + 1) c).ownBlock ≠ some y.D := by
    rcases hv with e | e <;> rw [e]
    · exact h.nD
    · intro e; injection e with e; omega
  have d4 : Blk w4 y.D 72 #[.int .i64 y.floor, y.v] := (gr.block y.D hDlt (fun e => h.nD e.symm)).trans h3.dk
  have foot4 : ∀ k, (k = y.D ∨ (Value.slice A (y.ls.length + 1) c).ownBlock = some k) → y.foot k ∨ w.heap.size ≤ k := by
    rintro k (rfl | hk)
    · exact .inl (.inl rfl)
    · rcases hv with e | e
      · rw [e] at hk; exact .inl (.inr hk)
      · rw [e] at hk; injection hk with hk; have := b3.size; exact .inr (by omega)
  have K4 : Kept y.foot w w4 := (Kept.of_below b3 _).trans ((Kept.refl y.foot w3).grown gr (fun k hk => .inl (.inr hk)))
  have K5 : Kept y.foot w (w4.setCell ⟨y.D, 1, none⟩ (.slice A (y.ls.length + 1) c)) := K4.setCell (.inl (.inl rfl)) _
  have habs : LogR.abs ⟨y.D, .slice A (y.ls.length + 1) c, y.floor, y.ls ++ [x]⟩ = y.abs.addS x.keys x.hard := by
    have e1 : y.abs.nextL x.keys x.hard = x.abs := by unfold PLog.nextL LnR.abs; rw [hno]
    unfold PLog.addS
    rw [e1, if_pos hr]
    simp [LogR.abs]
  have habs2 : y.abs.addS x.keys x.hard = ⟨y.floor, y.abs.ls ++ [x.abs]⟩ := by
    rw [← habs]; simp [LogR.abs]
  have D5 : Blk (w4.setCell ⟨y.D, 1, none⟩ (.slice A (y.ls.length + 1) c)) y.D 72 #[.int .i64 y.floor, .slice A (y.ls.length + 1) c] := d4.set_ 1 _
  refine ⟨⟨y.D, .slice A (y.ls.length + 1) c, y.floor, y.ls ++ [x]⟩, ⟨D5, ?_, ?_, h.bD, hnD, h.xD, ?_, ?_⟩, by rw [habs, habs2], rfl, K5, foot4⟩
  · simp only [List.length_append, List.length_singleton, lC_append]
    rw [show lC [x] = x.cells by simp [lC]]
    exact own_frame own4 (fun k hk => heap_setCell_other _ _ _ _ (by intro e; exact hnD (by rw [hk]; exact congrArg some e)))
  · intro z hz
    simp only [List.mem_append, List.mem_singleton] at hz
    rcases hz with hz | rfl
    · exact ⟨(h.ks z hz).rd.next (K5.mono fun _ _ hf => .inl hf) (fun k hk hf => by
        rcases hf with hf | hf
        · rcases foot4 k hf with h1 | h1
          · exact .inl h1
          · omega
        · exact .inr hf), (h.ks z hz).cap, (h.ks z hz).c63⟩
    · obtain ⟨_, _, hz0, hz1, hz2⟩ := own_form o3
      injection hz0 with _ _ hz3
      subst hz3
      unfold maxLen at hz2
      have K35 : Kept y.foot w3 (w4.setCell ⟨y.D, 1, none⟩ (.slice A (y.ls.length + 1) c)) := ((Kept.refl y.foot w3).grown gr (fun k hk => .inl (.inr hk))).setCell (.inl (.inl rfl)) _
      refine ⟨(own_rvf (F := fun k => (y.foot k ∨ X k) ∨ w3.heap.size ≤ k) o3 (fun k hk => ?_)).next (K35.mono fun _ _ hf => .inl (.inl hf)) (fun k hk hf => ?_), hz1, by omega⟩
      · rcases hk with (hk | hk) | hk
        · have := (h.foot_lt hk).2; exact .inl (by omega)
        · have := hX k hk; exact .inl (by omega)
        · exact .inr hk
      · rcases hf with (rfl | hf) | hf
        · exact .inl (.inl (.inl rfl))
        · rcases hv with e | e
          · rw [e] at hf; exact .inl (.inl (.inr hf))
          · rw [e] at hf; injection hf with hf; exact .inr (by omega)
        · exact .inl (.inr hf)
  · intro k hk
    rcases hv with e | e
    · rw [e] at hk; exact h.xv k hk
    · rw [e] at hk; injection hk with hk
      intro hx
      have := hX k hx
      have := b3.size
      omega
  · rw [habs]; exact h.ok.add x.keys x.hard
/-- What Add tells. -/
def RetAdd (w : World) (base : Nat) (X : Nat → Prop) (y : LogR) (n k : Int) (S : PLog) (e : Ending) (w' : World) : Prop := e = .returned (.tuple #[.int .i64 n, .int .i64 k]) ∧ NextL w base X y S w'
set_option maxHeartbeats 1600000 in
theorem add_no (y : LogR) (keys : List Txt) (hard : Bool) (A : Option Addr) (cap : Nat) (w : World) (base : Nat) (X : Nat → Prop) (h : LogOK w base X y) (hR : RS w A keys) (hcap : keys.length ≤ cap) (hc63 : cap ≤ 9223372036854775807)
    (hr : rightB (y.abs.nextL keys hard) = false) :
    Calls Tryd.prog 36 #[.pointer (some ⟨y.D, 0, none⟩), .slice A keys.length cap, .bool hard] w (RetAdd w base X y 0 1 y.abs) := by
  have hn := h.ok.now_le
  have NC := now_calls y w base X h
  have hr' : rightB ⟨y.abs.now + 1, keys, hard⟩ = false := hr
  have HE : Hid (∀ w', Below w.heap.size w w' → RetAdd w base X y 0 1 y.abs (.returned (.tuple #[.int .i64 0, .int .i64 1])) w') := fun w' hb => ⟨rfl, NextL.same_below h hb⟩
  have RC := fun w' (hb : Below w.heap.size w w') => right_calls (y.abs.now + 1) keys hard A cap w' (hR.below hb) hcap hc63
  simp only [hr'] at RC
  generalize y.abs.now = N at *
  clear h hr hr'
  go_enter Tryd.func36, Tryd.ntmps36
  go_wp2_with fail
  refine NC.mono ?_
  clear NC
  rintro e w1 ⟨rfl, q, rfl⟩
  have b0 := drewN_below w q
  generalize w.drewN q = w1 at *
  have b1 : Below w.heap.size w (w1.alloc (.cells #[.int .i64 (N + 1), .slice A keys.length cap, .bool hard] 54)) := b0.alloc b0.size _
  go_wp2_with fail
  refine (RC _ b1).mono ?_
  clear RC
  rintro e w2 ⟨rfl, b2⟩
  have HF := Lib.hid (HE.out _ (b1.trans (b2.mono b1.size)))
  go_wp2
  go_ret2
  exact HF.out
set_option maxHeartbeats 3200000 in
set_option maxRecDepth 100000 in
theorem add_yes (y : LogR) (keys : List Txt) (hard : Bool) (A : Option Addr) (cap : Nat) (w : World) (base : Nat) (X : Nat → Prop) (hX : ∀ k, X k → k < w.heap.size) (hbase : base ≤ w.heap.size) (h : LogOK w base X y) (hR : RS w A keys) (hcap : keys.length ≤ cap) (hc63 : cap ≤ 9223372036854775807)
    (hr : rightB (y.abs.nextL keys hard) = true) :
    Calls Tryd.prog 36 #[.pointer (some ⟨y.D, 0, none⟩), .slice A keys.length cap, .bool hard] w (RetAdd w base X y (y.abs.now + 1) 0 ⟨y.floor, y.abs.ls ++ [y.abs.nextL keys hard]⟩) := by
  have hn := h.ok.now_le
  have NC := now_calls y w base X h
  have hr' : rightB ⟨y.abs.now + 1, keys, hard⟩ = true := hr
  have hkl := ((right_iff _).1 hr').1
  simp only at hkl
  have RC := fun w' (hb : Below w.heap.size w w') => right_calls (y.abs.now + 1) keys hard A cap w' (hR.below hb) hcap hc63
  simp only [hr'] at RC
  have CC := fun w' (hb : Below w.heap.size w w') => copied_calls (y.abs.now + 1) keys hard A cap w' (hR.below hb) (by omega)
  have HN : Hid (y.abs.nextL keys hard = ⟨y.abs.now + 1, keys, hard⟩) := rfl
  rw [HN.out]
  have hlen := h.len_le
  have HRR := Lib.hid hr'
  have HNN : Hid (∀ N, y.abs.now = N → N = y.abs.now) := fun _ h => h.symm
  generalize hNow : y.abs.now = N at *
  clear HNN
  have HNN : Hid (y.abs.now = N) := hNow
  clear hr hr' hNow
  obtain ⟨AV, cV, hv, _, _⟩ := own_form h.rk
  go_enter Tryd.func36, Tryd.ntmps36
  go_wp2_with fail
  refine NC.mono ?_
  clear NC
  rintro e w1 ⟨rfl, q, rfl⟩
  have b0 := drewN_below w q
  generalize w.drewN q = w1 at *
  have b1 : Below w.heap.size w (w1.alloc (.cells #[.int .i64 (N + 1), .slice A keys.length cap, .bool hard] 54)) := b0.alloc b0.size _
  have xb := Blk.new w1 54 #[.int .i64 (N + 1), .slice A keys.length cap, .bool hard]
  go_wp2_with fail
  refine (RC _ b1).mono ?_
  clear RC
  rintro e w2 ⟨rfl, b2⟩
  have xb2 := xb.below b2 xb.lt
  have bel2 := b1.trans (b2.mono b1.size)
  have h2 := h.below bel2
  clear xb b1 b2
  have dk := h2.dk
  rw [hv] at dk
  have d1 : w2.cell? ⟨y.D, 1, none⟩ = some (.slice AV y.ls.length cV) := dk.at_ rfl
  have x0 : w2.cell? ⟨w1.heap.size, 0, none⟩ = some (.int .i64 (N + 1)) := xb2.at_ rfl
  have x1 : w2.cell? ⟨w1.heap.size, 1, none⟩ = some (.slice A keys.length cap) := xb2.at_ rfl
  have x2 : w2.cell? ⟨w1.heap.size, 2, none⟩ = some (.bool hard) := xb2.at_ rfl
  have rk2 := h2.rk
  rw [hv] at rk2
  have bD2 : ∀ {w3 : World}, Below w2.heap.size w2 w3 → Blk w3 y.D 72 #[.int .i64 y.floor, .slice AV y.ls.length cV] := fun b => dk.below b dk.lt
  have hDv : (Value.slice AV y.ls.length cV).ownBlock ≠ some y.D := by rw [← hv]; exact h2.nD
  have hDx : y.D ≠ w1.heap.size := by have := h.dk.lt; have := b0.size; omega
  have hvx : ∀ k, (Value.slice AV y.ls.length cV).ownBlock = some k → k < w1.heap.size := fun k hk => by rw [← hv] at hk; have := (h.rk.lt k hk).2; have := b0.size; omega
  have hxl : w1.heap.size < w2.heap.size := xb2.lt
  have hs2 := bel2.size
  have hDl := dk.lt
  have HP : Hid (∀ (w3 w4 : World) (x : LnR) (v : Value), Below w2.heap.size w2 w3 → w2.heap.size ≤ w3.heap.size → w3.ownsRow w2.heap.size 9 1 (.slice x.A x.keys.length x.cap) x.keys.length (cS x.keys) →
      w4.ownsRow base 54 3 v (y.ls.length + 1) (lC y.ls ++ x.cells) → w3.grownBy w4 (Value.slice AV y.ls.length cV).ownBlock → (v.ownBlock = (Value.slice AV y.ls.length cV).ownBlock ∨ v.ownBlock = some w3.heap.size) → x.keys = keys → x.hard = hard → x.no = N + 1 →
      NextL w base X y ⟨y.floor, y.abs.ls ++ [⟨N + 1, keys, hard⟩]⟩ (w4.setCell ⟨y.D, 1, none⟩ v)) := by
    intro w3 w4 x v hb3 hs3 ho3 ho4 hg4 hv4 e1 e2 e3
    rw [← hv] at hg4 hv4
    have := LogOK.push h hbase hX (bel2.trans (hb3.mono bel2.size)) (N := w2.heap.size) bel2.size hs3 ho3 ho4 hg4 hv4 (by rw [show x.abs = ⟨N + 1, keys, hard⟩ by unfold LnR.abs; rw [e1, e2, e3]]; exact HRR.out) (by rw [e3, HNN.out])
    rw [show x.abs = ⟨N + 1, keys, hard⟩ by unfold LnR.abs; rw [e1, e2, e3]] at this
    exact this
  have bd2 : Below w.heap.size w w2.drew := bel2.drew
  clear h h2 hR hv
  go_wp2_with fail
  go_region_law (first
    | (go_simp; go_at_call 39; refine (CC _ bd2).mono ?_; rintro e w3 ⟨A3, c3, rfl, o3z, b3z⟩; have o3 : w3.ownsRow w2.heap.size 9 1 (.slice A3 keys.length c3) keys.length (cS keys) := o3z; have b3 : Below w2.heap.size w2 w3 := ⟨b3z.os, b3z.tape, b3z.output, b3z.size, b3z.block⟩; clear o3z b3z; have hs3 := b3.size; have own3 := own_below rk2 b3 (fun k hk => (rk2.lt k hk).2); have e1 : w3.cell? ⟨y.D, 1, none⟩ = some (.slice AV y.ls.length cV) := (bD2 b3).at_ rfl; have e1a : ∀ o, (w3.alloc o).cell? ⟨y.D, 1, none⟩ = some (.slice AV y.ls.length cV) := fun o => ((bD2 b3).alloc o).at_ rfl)
    | (refine step_append_rv (A := some ⟨w3.heap.size, 0, none⟩) (m := 1) (c := 1) (v := .slice AV y.ls.length cV) (base := base) el_line rfl (.tmp 22) (.tmp 25) rfl rfl (own3.alloc _) rfl rfl (RV.new w3 [.int .i64 (N + 1), .slice A3 keys.length c3, .bool hard] 54 (0, 0)) (lC_one [⟨N + 1, A3, c3, keys, hard⟩]) (by unfold maxLen; omega) (by omega) (by simp; omega) ?_; intro v4 w4 own4 gr4 hv4; (obtain ⟨A4, c4, hv4f, _, _⟩ := own_form own4); subst hv4f; have HF := Lib.hid (HP.out _ w4 ⟨N + 1, A3, c3, keys, hard⟩ (.slice A4 (y.ls.length + 1) c4) (b3.alloc b3.size _) (by simp; omega) (o3.alloc _) own4 gr4 (by simpa using hv4) rfl rfl rfl); have d4 : Blk w4 y.D 72 #[.int .i64 y.floor, .slice AV y.ls.length cV] := (gr4.block y.D (by simp; omega) (fun e => hDv e.symm)).trans ((bD2 b3).alloc _); have x4 : Blk w4 w1.heap.size 54 #[.int .i64 (N + 1), .slice A keys.length cap, .bool hard] := (gr4.block w1.heap.size (by simp; omega) (fun e => by have := hvx _ e.symm; omega)).trans ((xb2.below b3 hxl).alloc _); have s1 : w4.cell? ⟨y.D, 1, none⟩ = some (.slice AV y.ls.length cV) := d4.at_ rfl; have sf := d4.frozen 1; have x5 := (x4.far (p := ⟨y.D, 1, none⟩) (Ne.symm hDx) (.slice A4 (y.ls.length + 1) c4)).at_ (i := 0) (v := .int .i64 (N + 1)) rfl; clear d4 x4 own4 gr4 hv4 o3 b3 own3))
  all_goals
    clear HP
    go_wp2
    go_ret2
    exact ⟨rfl, HF.out⟩
theorem add_calls (y : LogR) (keys : List Txt) (n : Nat) (hn : keys.length = n) (hard : Bool) (A : Option Addr) (cap : Nat) (w : World) (base : Nat) (X : Nat → Prop) (hX : ∀ k, X k → k < w.heap.size) (hbase : base ≤ w.heap.size) (h : LogOK w base X y) (hR : RS w A keys) (hcap : n ≤ cap) (hc63 : cap ≤ 9223372036854775807) :
    Calls Tryd.prog 36 #[.pointer (some ⟨y.D, 0, none⟩), .slice A n cap, .bool hard] w (RetAdd w base X y (y.abs.addN keys hard) (y.abs.addE keys hard) (y.abs.addS keys hard)) := by
  subst hn
  cases hr : rightB (y.abs.nextL keys hard)
  · unfold PLog.addN PLog.addE PLog.addS
    rw [hr]
    exact add_no y keys hard A cap w base X h hR hcap hc63 hr
  · unfold PLog.addN PLog.addE PLog.addS
    rw [hr]
    exact add_yes y keys hard A cap w base X hX hbase h hR hcap hc63 hr
end Go.Proofs.YtdcjljlppeighaaDoor
