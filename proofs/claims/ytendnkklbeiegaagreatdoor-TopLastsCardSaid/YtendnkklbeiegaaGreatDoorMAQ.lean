/-
  Walk: a record of the log is heeded.
-/
import Derived.Test.YtendnkklbeiegaaGreatDoorMAO
import Derived.Test.YtendnkklbeiegaaGreatDoorStep
import Derived.Test.YtendnkklbeiegaaGreatDoorMAG
import Derived.Deep.Cut
import Derived.StillTailTactics
import Derived.Test.YtendnkklbeiegaaGreatDoorMAS
import Derived.Test.YtendnkklbeiegaaGreatDoorMAM
import Derived.Test.YtendnkklbeiegaaGreatDoorMAN
namespace Go.Proofs.YtendnkklbeiegaaGreatDoor
open Go.RowKit Go.Maps StoreP

theorem info_st : (Tryz.prog.info? 9).map (fun i => (i.zero, i.size, i.bytes)) = some (some (.string ⟨#[]⟩), 1, 16) := by kernel_rfl
theorem el_st : El Tryz.prog 76 9 (.string ⟨#[]⟩) 1 16 := ⟨info_parts info_st, Tryz.underlying76, rfl, by decide⟩
theorem StoOK.base_le {w : World} {base : Nat} {σ : StoL} {s : SP} (h : StoOK w base σ s) : base ≤ w.heap.size := by
  have h1 := h.lo σ.B ⟨.box, rfl⟩
  have h2 := h.bx.lt
  omega
def RetHeed (w : World) (base : Nat) (σ : StoL) (s : SP) (a : StoreP.Act) (e : Ending) (w' : World) : Prop := e = .returned (.tuple #[]) ∧ NextS w base σ { s with st := s.st.heed a, many := s.many + 1 } w'
set_option maxRecDepth 100000 in
set_option maxHeartbeats 1600000 in
theorem heed_mark (σ : StoL) (s : SP) (t : List UInt8) (_ht : t.length ≤ 100000) (A : Option Addr) (c : Nat) (w : World) (base : Nat) (h : StoOK w base σ s) (hR : RVF w (fun _ => False) A (cB t)) (hm : s.many ≤ 1000) :
    Calls Tryz.prog 32 #[.pointer (some ⟨σ.B, 0, none⟩), .agg #[.int .u8 77, .slice A t.length c]] w (RetHeed w base σ s (.mark t)) := by
  have hcn := h.cnt
  have B1 : Below w.heap.size w (w.alloc (.cells #[.int .u8 77, .slice A t.length c] 107)) := (Below.refl _ _).alloc (Nat.le_refl _) _
  have k1 := Blk.new w 107 #[.int .u8 77, .slice A t.length c]
  have h1 := h.below B1
  have hv := run_str (w.alloc (.cells #[.int .u8 77, .slice A t.length c] 107)) _ _ _ Tryz.underlying42 Tryz.underlying5 Tryz.underlying9 A t t.length c (RVF.rv hR |>.below B1) rfl
  obtain ⟨Am, cm, hvm, hc1, hc2⟩ := own_form h1.mk_
  have c6 := h1.bx.at_ (i := 6) (v := σ.v) rfl
  rw [hvm] at c6
  have r0 := k1.at_ (i := 0) rfl
  have r1 := k1.at_ (i := 1) rfl
  have hb1 : base ≤ (w.alloc (.cells #[.int .u8 77, .slice A t.length c] 107)).heap.size := h1.base_le
  have hlt := h1.lt
  have B2 : Below w.heap.size w ((w.alloc (.cells #[.int .u8 77, .slice A t.length c] 107)).alloc (.cells #[.string (bstr t)] 9)) := B1.alloc (by simp) _
  have h2 := h.below B2
  have rvn : RV ((w.alloc (.cells #[.int .u8 77, .slice A t.length c] 107)).alloc (.cells #[.string (bstr t)] 9)) (some ⟨w.heap.size + 1, 0, none⟩) [txV t] := by
    have := RV.new (w.alloc (.cells #[.int .u8 77, .slice A t.length c] 107)) [txV t] 9 (0, 0)
    rw [World.size_alloc] at this
    exact this
  have l1 : s.st.marks.length + 1 ≤ maxLen := by unfold maxLen; omega
  have l2 : (s.st.marks.length + 1) * 16 ≤ 140737488355328 := by omega
  have own2 := h2.mk_
  rw [hvm] at own2
  have hb2 := h2.base_le
  have HM := Lib.hid hvm
  clear hlt hvm
  go_enter Tryz.func32, Tryz.ntmps32
  go_wp2_with (first
    | ((with_reducible show wpList _ _ _ (⟨some 61, _, _, _, _, _⟩ :: _) _ _); refine wpList_append_rv el_st rfl (.tmp 58) (.tmp 60) rfl base (.slice Am s.st.marks.length cm) s.st.marks.length (s.st.marks.map txV) rfl own2 (some ⟨w.heap.size + 1, 0, none⟩) 1 1 [txV t] rfl rfl rvn (fun u hu => by rw [List.mem_singleton.1 hu]; rfl) l1 l2 hb2 ?_; intro v3 w3 own3 gr3 hv3;
       rw [← HM.out] at gr3 hv3;
       have k0 : Kept (fun k => k = σ.B ∨ σ.v.ownBlock = some k) w w3 := ((Kept.of_below B2 _).grown gr3 (fun k hk => .inl (.inr hk)));
       have bx3 : Blk w3 σ.B 99 (σ.cells s.epoch s.puts) := (gr3.block σ.B h2.bx.lt (fun e => absurd (h.ap .box .marks σ.B rfl e.symm) (by decide))).trans h2.bx;
       have c3 := bx3.at_ (i := 6) (v := σ.v) rfl; have z3 := bx3.frozen 6;
       obtain ⟨A3, cc3, rfl, _, _⟩ := own_form own3))
  go_end0
  have hne : ∀ k, (Value.slice A3 (s.st.marks.length + 1) cc3).ownBlock = some k → k ≠ σ.B := fun k hk e => by
    subst e
    rcases hv3 with e | e
    · exact absurd (h.ap .box .marks σ.B rfl (e.symm.trans hk)) (by decide)
    · rw [e] at hk
      have h7 := h.bx.lt
      simp at hk
      omega
  refine ⟨rfl, h.marks (v := .slice A3 (s.st.marks.length + 1) cc3) (ms := s.st.marks ++ [t]) (by simp; omega) (k0.setCell (p := ⟨σ.B, 6, none⟩) (.inl (.inl rfl)) _) (bx3.set_ 6 _) ?_ fun k hk => ?_⟩
  · simp only [List.length_append, List.length_singleton, List.map_append, List.map_cons, List.map_nil]
    exact own_frame own3 fun k hk => heap_setCell_other _ ⟨σ.B, 6, none⟩ k _ (hne k hk)
  · rcases hv3 with e | e
    · exact .inl (e.symm.trans hk)
    · rw [e] at hk
      simp at hk
      exact .inr (by omega)
set_option maxRecDepth 100000 in
set_option maxHeartbeats 1600000 in
theorem heed_drop (σ : StoL) (s : SP) (n : Nm) (hn : okN n) (A : Option Addr) (c : Nat) (w : World) (base : Nat) (h : StoOK w base σ s) (hG : Glob w base) (hR : RVF w (fun _ => False) A (cB (numsT [(n.1 : Int), (n.2 : Int)]))) (_hm : s.many ≤ 1000) :
    Calls Tryz.prog 32 #[.pointer (some ⟨σ.B, 0, none⟩), .agg #[.int .u8 68, .slice A (numsT [(n.1 : Int), (n.2 : Int)]).length c]] w (RetHeed w base σ s (.drop n)) := by
  have hcn := h.cnt
  obtain ⟨l, hl⟩ : ∃ l, l = numsT [(n.1 : Int), (n.2 : Int)] := ⟨_, rfl⟩
  rw [← hl] at hR ⊢
  have B1 : Below w.heap.size w (w.alloc (.cells #[.int .u8 68, .slice A l.length c] 107)) := (Below.refl _ _).alloc (Nat.le_refl _) _
  have k1 := Blk.new w 107 #[.int .u8 68, .slice A l.length c]
  have h1 := h.below B1
  have hv := run_str (w.alloc (.cells #[.int .u8 68, .slice A l.length c] 107)) _ _ _ Tryz.underlying42 Tryz.underlying5 Tryz.underlying9 A l l.length c (RVF.rv hR |>.below B1) rfl
  have r0 := k1.at_ (i := 0) rfl
  have r1 := k1.at_ (i := 1) rfl
  have hs : ∀ x ∈ [(n.1 : Int), (n.2 : Int)], small40 x := by
    obtain ⟨q1, q2⟩ := hn
    intro x hx
    simp only [List.mem_cons, List.not_mem_nil, or_false] at hx
    unfold small40
    rcases hx with rfl | rfl <;> omega
  have NC := numbers_calls [(n.1 : Int), (n.2 : Int)] (by simp) hs (by simp) (w.alloc (.cells #[.int .u8 68, .slice A l.length c] 107)) base (hG.bel B1 h.base_le) h1.base_le
  rw [← hl] at NC
  replace NC : Calls Tryz.prog 79 #[.string (bstr l), .int .i64 2] (w.alloc (.cells #[.int .u8 68, .slice A l.length c] 107)) (RetNum (w.alloc (.cells #[.int .u8 68, .slice A l.length c] 107)) [(n.1 : Int), (n.2 : Int)]) := NC
  obtain ⟨kl, hkl⟩ := keyOf_nm n hn
  clear hl
  go_enter Tryz.func32, Tryz.ntmps32
  go_wp2_with (go_at_call 79; refine NC.mono ?_; rintro e w2 ⟨A2, c2, rfl, rv2, B2, nw2⟩)
  have B3 : Below w.heap.size w w2 := B1.trans (B2.mono B1.size)
  have h2 := h.below B3
  have c5 := h2.bx.at_ (i := 5) (v := .map (some σ.M)) rfl
  obtain ⟨g, off, rfl, hg, hc⟩ := rv2 (by simp [cI])
  have e0 : w2.cell? ⟨g, off, none⟩ = some (.int .i64 (n.1 : Int)) := hc 0 _ rfl
  have e1 : w2.cell? ⟨g, off + 1, none⟩ = some (.int .i64 (n.2 : Int)) := hc 1 _ rfl
  have hM := h2.sl
  clear hc NC hv r0 r1 k1 B1 B2 h1 hR
  go_still_tail 11, (by kernel_rfl)
  change wpList _ _ _ _ _ w2.drew
  with_reducible refine wpList_delete_V rfl (.tmp 80) (.tmp 87) 95 40 112 rfl nmKeyed Tryz.underlying95 σ.M σ.mn (encS s.st.sl) (by kernel_rfl) hM.drew (nmV n) kl (by kernel_rfl) hkl ?_
  intro w3 hM3 gr3
  have e4 : setM (encS s.st.sl) (nmV n) none = encS (upd s.st.sl n none) := encS_set s.st.sl n none
  rw [e4] at hM3
  have HF : Hid (RetHeed w base σ s (.drop n) (.returned (.tuple #[])) w3) :=
    ⟨rfl, ((h.below B3.drew).slices (f := upd s.st.sl n none) (many := s.many + 1) (by split <;> omega) hM3 gr3).after B3.drew⟩
  clear hM3 gr3 e4 hM
  go_frame
  go_wp2_with fail
  go_end0
  exact HF.out
theorem nums_32 (v : Nat) (hv : v ≤ 1000) : ∀ c ∈ numsT [(v : Int)], c ≠ 32 := by
  have e : numsT [(v : Int)] = Lib.itoa (v : Int) := by simp [numsT, restT]
  rw [e]
  exact itoa_32 (v : Int) ⟨by omega, by omega⟩
set_option maxRecDepth 100000 in
set_option maxHeartbeats 1600000 in
theorem heed_note (σ : StoL) (s : SP) (v : Nat) (t : List UInt8) (hv : v ≤ 1000) (ht : t.length ≤ 10000) (A : Option Addr) (c : Nat) (w : World) (base : Nat) (h : StoOK w base σ s) (hG : Glob w base) (hR : RVF w (fun _ => False) A (cB (numsT [(v : Int)] ++ 32 :: t))) (hm : s.many ≤ 1000) :
    Calls Tryz.prog 32 #[.pointer (some ⟨σ.B, 0, none⟩), .agg #[.int .u8 78, .slice A (numsT [(v : Int)] ++ 32 :: t).length c]] w (RetHeed w base σ s (.note v t)) := by
  have hcn := h.cnt
  have hlen := nums_len [(v : Int)] (by simp; omega)
  obtain ⟨l, hl⟩ : ∃ l, l = numsT [(v : Int)] ++ 32 :: t := ⟨_, rfl⟩
  rw [← hl] at hR ⊢
  have B1 : Below w.heap.size w (w.alloc (.cells #[.int .u8 78, .slice A l.length c] 107)) := (Below.refl _ _).alloc (Nat.le_refl _) _
  have k1 := Blk.new w 107 #[.int .u8 78, .slice A l.length c]
  have h1 := h.below B1
  have hG1 := hG.bel B1 h.base_le
  have hcv := run_str (w.alloc (.cells #[.int .u8 78, .slice A l.length c] 107)) _ _ _ Tryz.underlying42 Tryz.underlying5 Tryz.underlying9 A l l.length c (RVF.rv hR |>.below B1) rfl
  have r0 := k1.at_ (i := 0) rfl
  have r1 := k1.at_ (i := 1) rfl
  have hs : ∀ x ∈ [(v : Int)], small40 x := by
    intro x hx
    rw [List.mem_singleton.1 hx]
    exact ⟨by omega, by omega⟩
  have CC := cutb_calls (numsT [(v : Int)]) t (nums_32 v hv) (by simp at hlen; omega) (w.alloc (.cells #[.int .u8 78, .slice A l.length c] 107)) base hG1
  rw [← hl] at CC
  have NC : ∀ k, Calls Tryz.prog 79 #[.string (bstr (numsT [(v : Int)])), .int .i64 1] ((w.alloc (.cells #[.int .u8 78, .slice A l.length c] 107)).drewN k) (RetNum ((w.alloc (.cells #[.int .u8 78, .slice A l.length c] 107)).drewN k) [(v : Int)]) := fun k =>
    numbers_calls [(v : Int)] (by simp) hs (by simp) _ base (hG1.bel (drewN_below _ k) h1.base_le) h1.base_le
  have RC := fun w' => right_sto_calls (v : Int) w' (by omega) (by omega)
  have hkl := keyOf_nt v (by omega)
  clear hl
  go_enter Tryz.func32, Tryz.ntmps32
  go_wp2_with (first
    | (go_at_call 78; refine CC.mono ?_; rintro e w2 ⟨rfl, k, rfl⟩)
    | (go_at_call 79; refine (NC _).mono ?_; rintro e w2 ⟨A2, c2, rfl, rv2, B2, nw2⟩; obtain ⟨g, off, rfl, hg, hc⟩ := rv2 (by simp [cI]); have e0 : w2.cell? ⟨g, off, none⟩ = some (.int .i64 (v : Int)) := hc 0 _ rfl)
    | (go_at_call 56; refine (RC _).mono ?_; rintro e w2 ⟨rfl, rfl⟩))
  have B3 : Below w.heap.size w w2 := B1.trans (((drewN_below _ k).trans B2).mono B1.size)
  have h2 := h.below B3
  have c4 := h2.bx.at_ (i := 4) (v := .map (some σ.N)) rfl
  have hM := h2.nt
  clear hc NC CC RC hcv r0 r1 k1 B1 B2 h1 hR hG1
  go_still_tail 8, (by kernel_rfl)
  change wpList _ _ _ _ _ w2.drew
  with_reducible refine wpList_store_V rfl (.tmp 47) (.tmp 50) (.tmp 51) 94 2 9 rfl ntKeyed Tryz.underlying94 σ.N σ.nn (encN s.st.notes) (by kernel_rfl) hM.drew (by omega) (.int .i64 (v : Int)) (txV t) _ (by kernel_rfl) (by kernel_rfl) hkl ?_
  intro w3 hM3 gr3
  have e4 : setM (encN s.st.notes) (.int .i64 (v : Int)) (some (txV t)) = encN (upd s.st.notes v (some t)) := encN_set s.st.notes v (some t)
  rw [e4] at hM3
  have HF : Hid (RetHeed w base σ s (.note v t) (.returned (.tuple #[])) w3) :=
    ⟨rfl, ((h.below B3.drew).notes (f := upd s.st.notes v (some t)) (many := s.many + 1) (by split <;> omega) hM3 gr3).after B3.drew⟩
  clear hM3 gr3 e4 hM
  go_frame
  go_wp2_with fail
  go_end0
  exact HF.out
end Go.Proofs.YtendnkklbeiegaaGreatDoor
namespace Go.Proofs.YtendnkklbeiegaaGreatDoor
open Go.RowKit StoreP JourP DiskP PageP

def RetLog (w : World) (base : Nat) (σ : StoL) (s : SP) (r : Rec) (e : Ending) (w' : World) : Prop := e = .returned (.int .i64 0) ∧ NextS w base σ { s with p := s.p.addS 128 r, d := addDS 128 s.p s.d r } w'
theorem StoOK.wl {w : World} {base : Nat} {σ : StoL} {s : SP} (h : StoOK w base σ s) : σ.j.y.wp.length = s.d.wait.length := by rw [← h.dk]; simp [Lay.abs]
set_option maxRecDepth 100000 in
set_option maxHeartbeats 1600000 in
theorem logged_calls (σ : StoL) (s : SP) (r : RecR) (fv : Value) (w : World) (base : Nat) (h : StoOK w base σ s) (hG : Glob w base) (hr : RecOK w σ.all r) (h0 : addE 128 s.p r.abs = 0) (hw : s.d.wait.length ≤ 60000) :
    Calls Tryz.prog 57 #[.pointer (some ⟨σ.B, 0, none⟩), .agg #[.int .u8 (r.kind.toNat : Int), .slice r.A r.body.length r.cap], fv] w (RetLog w base σ s r.abs) := by
  have hwl := h.wl
  have B1 : Below w.heap.size w (w.alloc (.cells #[.int .u8 (r.kind.toNat : Int), .slice r.A r.body.length r.cap] 107)) := (Below.refl _ _).alloc (Nat.le_refl _) _
  have k1 := Blk.new w 107 #[.int .u8 (r.kind.toNat : Int), .slice r.A r.body.length r.cap]
  have h1 := h.below B1
  have h2 := h.below B1.drew
  have hG2 := hG.bel B1.drew h.base_le
  have c2 := h1.bx.at_ (i := 2) (v := .pointer (some ⟨σ.j.G, 0, none⟩)) rfl
  have r0 : (w.alloc (.cells #[.int .u8 (r.kind.toNat : Int), .slice r.A r.body.length r.cap] 107)).cell? ⟨w.heap.size, 0, none⟩ = some (.int .u8 (r.kind.toNat : Int)) := k1.at_ rfl
  have r1 : (w.alloc (.cells #[.int .u8 (r.kind.toNat : Int), .slice r.A r.body.length r.cap] 107)).cell? ⟨w.heap.size, 1, none⟩ = some (.slice r.A r.body.length r.cap) := k1.at_ rfl
  have JA := jadd_calls σ.j s.p r _ base h2.lg hG2.tab h2.base_le hG2.steps ((hr.below B1.drew).mono fun k _ hk => ⟨.log, hk⟩) (by omega)
  rw [h.sz, h0, h.dk] at JA
  go_enter Tryz.func57, Tryz.ntmps57
  go_wp2_with fail
  clear k1 h1
  revert r0 r1 c2 h2 hG2 B1 JA
  generalize w.alloc (.cells #[.int .u8 (r.kind.toNat : Int), .slice r.A r.body.length r.cap] 107) = w1
  intro B1 h2 hG2 c2 r0 r1 JA
  go_still_tail 5, (by kernel_rfl)
  change wpList _ _ _ _ _ w1.drew
  go_wp2_with (go_at_call 103; refine JA.mono ?_; rintro e w2 ⟨rfl, N2⟩; replace N2 := Lib.hid (NextS.after B1.drew (h2.log N2)))
  go_ret
  exact ⟨rfl, N2.out⟩
theorem sync_calls (σ : StoL) (s : SP) (w : World) (base : Nat) (h : StoOK w base σ s) (hw : s.d.wait.length ≤ 60000) :
    Calls Tryz.prog 25 #[.pointer (some ⟨σ.B, 0, none⟩)] w fun e w' => e = .returned (.int .i64 0) ∧ NextS w base σ { s with p := s.p.sync, d := s.d.flush } w' := by
  have hwl := h.wl
  have c2 := h.bx.at_ (i := 2) (v := .pointer (some ⟨σ.j.G, 0, none⟩)) rfl
  have JS := jsync_calls σ.j s.p w base h.lg (by omega)
  rw [h.dk] at JS
  go_enter Tryz.func25, Tryz.ntmps25
  go_wp2_with (go_at_call 61; refine JS.mono ?_; rintro e w2 ⟨rfl, N2⟩; replace N2 := Lib.hid (h.log N2))
  go_ret
  exact ⟨rfl, N2.out⟩
end Go.Proofs.YtendnkklbeiegaaGreatDoor
namespace Go.Proofs.YtendnkklbeiegaaGreatDoor
open Go.RowKit StoreP JourP DiskP PageP

def putsN (s : SP) : Nat := if s.epoch = s.p.e then s.puts + 1 else 1
def RetMark (w : World) (base : Nat) (σ : StoL) (s : SP) (e : Ending) (w' : World) : Prop := e = .returned (.tuple #[.int .i64 ((s.p.e * 1048576 + putsN s : Nat) : Int), .int .i64 0]) ∧ NextS w base σ { s with epoch := s.p.e, puts := putsN s } w'
theorem epoch_at (σ : StoL) (s : SP) (w : World) (base : Nat) (h : StoOK w base σ s) : ∀ q, Calls Tryz.prog 110 #[.pointer (some ⟨σ.j.G, 0, none⟩)] (w.drewN q) fun e w' => e = .returned (.int .i64 (s.p.e : Int)) ∧ w' = w.drewN q := fun q => by
  have := jepoch_calls σ.j (w.drewN q) base (h.lg.ok.drewN q)
  rw [h.lg.fe] at this
  exact this.mono fun _ _ ⟨a, b⟩ => ⟨a, b.symm⟩
set_option maxRecDepth 100000 in
set_option maxHeartbeats 1600000 in
theorem next_calls (σ : StoL) (s : SP) (w : World) (base : Nat) (h : StoOK w base σ s) (hp : s.puts ≤ 1000000) (he : s.p.e ≤ 1000000) (hs : s.epoch ≤ 1000000) :
    Calls Tryz.prog 65 #[.pointer (some ⟨σ.B, 0, none⟩)] w (RetMark w base σ s) := by
  have c2 := h.bx.at_ (i := 2) (v := .pointer (some ⟨σ.j.G, 0, none⟩)) rfl
  have c7 := h.bx.at_ (i := 7) (v := .int .i64 (s.epoch : Int)) rfl
  have c8 := h.bx.at_ (i := 8) (v := .int .i64 (s.puts : Int)) rfl
  have EC := epoch_at σ s w base h
  have d1 : ((s.puts : Int) == 1048575) = false := by simp; omega
  obtain ⟨m, hm⟩ : ∃ m, m = putsN s := ⟨_, rfl⟩
  have hm6 : m ≤ 1000001 := by rw [hm]; unfold putsN; split <;> omega
  have s2 : IntKind.i64.wrap ((s.p.e : Int) * 1048576) = (s.p.e : Int) * 1048576 := by rw [IntKind.wrap_i64]; omega
  have s3 : IntKind.i64.wrap ((s.p.e : Int) * 1048576 + (m : Int)) = ((s.p.e * 1048576 + m : Nat) : Int) := by rw [IntKind.wrap_i64]; omega
  by_cases e1 : s.epoch = s.p.e
  · have hn : m = s.puts + 1 := hm.trans (if_pos e1)
    have s1 : IntKind.i64.wrap ((s.puts : Int) + 1) = (m : Int) := by rw [IntKind.wrap_i64]; omega
    rw [e1] at c7
    go_enter Tryz.func65, Tryz.ntmps65
    go_wp2_with fail
    go_quiet ((go_at_call 110; (with_reducible refine Calls.quiet_of_same (EC _))))
    have B1 := drewN_below w nq
    have h1 := h.below B1
    clear c2 c7 c8 EC
    revert B1 h1
    generalize w.drewN nq = w1
    intro B1 h1
    have c2 := h1.bx.at_ (i := 2) (v := .pointer (some ⟨σ.j.G, 0, none⟩)) rfl
    have c7 := h1.bx.at_ (i := 7) (v := .int .i64 (s.epoch : Int)) rfl
    rw [e1] at c7
    have EC := epoch_at σ s w1 base h1
    go_wp2_with fail
    go_quiet ((go_at_call 110; (with_reducible refine Calls.quiet_of_same (EC _))))
    have B2 := B1.trans ((drewN_below w1 nq).mono B1.size)
    have h2 := h.below B2
    clear c2 c7 EC h1 B1
    revert B2 h2
    generalize w1.drewN nq = w2
    intro B2 h2
    have c7 := h2.bx.at_ (i := 7) (v := .int .i64 (s.epoch : Int)) rfl
    have c8 := h2.bx.at_ (i := 8) (v := .int .i64 (s.puts : Int)) rfl
    have z8 := h2.bx.frozen 8
    rw [e1] at c7
    have bx3 : Blk (w2.setCell ⟨σ.B, 8, none⟩ (.int .i64 (m : Int))) σ.B 99 (σ.cells s.p.e m) := by
      have := h2.bx.set_ 8 (.int .i64 (m : Int))
      rw [e1] at this
      exact this
    have k3 : Kept (fun k => k = σ.B) w2 (w2.setCell ⟨σ.B, 8, none⟩ (.int .i64 (m : Int))) := Kept.setCell (F := fun k => k = σ.B) (Kept.refl _ w2) (p := ⟨σ.B, 8, none⟩) (.inl rfl) _
    have N3 : Hid (NextS w base σ { s with epoch := s.p.e, puts := m } (w2.setCell ⟨σ.B, 8, none⟩ (.int .i64 (m : Int)))) := NextS.after B2 (h2.box k3 bx3)
    clear k3
    go_upto_region 8 with fail
    have c7 := bx3.at_ (i := 7) (v := .int .i64 (s.p.e : Int)) rfl
    have c8 := bx3.at_ (i := 8) (v := .int .i64 (m : Int)) rfl
    go_quiet (fail)
    go_wp2_with fail
    go_ret2
    exact ⟨by rw [← hm]; rfl, by rw [← hm]; exact N3.out.then (drewN_below _ _)⟩
  · have hn : m = 1 := hm.trans (if_neg e1)
    subst hn
    have HM := Lib.hid hm
    clear hm
    have d2 : ((s.epoch : Int) == (s.p.e : Int)) = false := by simp; omega
    have d3 : ((s.epoch : Int) != (s.p.e : Int)) = true := by simp; omega
    have d4 : ¬ (s.epoch : Int) = (s.p.e : Int) := by omega
    go_enter Tryz.func65, Tryz.ntmps65
    go_wp2_with fail
    go_quiet ((go_at_call 110; (with_reducible refine Calls.quiet_of_same (EC _))))
    have B1 := drewN_below w nq
    have h1 := h.below B1
    clear c2 c7 c8 EC
    revert B1 h1
    generalize w.drewN nq = w1
    intro B1 h1
    have c2 := h1.bx.at_ (i := 2) (v := .pointer (some ⟨σ.j.G, 0, none⟩)) rfl
    have c7 := h1.bx.at_ (i := 7) (v := .int .i64 (s.epoch : Int)) rfl
    have EC := epoch_at σ s w1 base h1
    go_wp2_with fail
    go_quiet ((go_at_call 110; (with_reducible refine Calls.quiet_of_same (EC _))))
    have B2 := B1.trans ((drewN_below w1 nq).mono B1.size)
    have h2 := h.below B2
    clear c2 c7 EC h1 B1
    revert B2 h2
    generalize w1.drewN nq = w2
    intro B2 h2
    have c2 := h2.bx.at_ (i := 2) (v := .pointer (some ⟨σ.j.G, 0, none⟩)) rfl
    have c7 := h2.bx.at_ (i := 7) (v := .int .i64 (s.epoch : Int)) rfl
    have c8 := h2.bx.at_ (i := 8) (v := .int .i64 (s.puts : Int)) rfl
    have z7 := h2.bx.frozen 7
    have z8 := h2.bx.frozen 8
    have EC0 : Calls Tryz.prog 110 #[.pointer (some ⟨σ.j.G, 0, none⟩)] w2 fun e w' => e = .returned (.int .i64 (s.p.e : Int)) ∧ w2 = w' := by
      have := jepoch_calls σ.j w2 base h2.lg.ok
      rw [h.lg.fe] at this
      exact this
    have bx3 : Blk (((w2.setCell ⟨σ.B, 7, none⟩ (.int .i64 (s.p.e : Int))).setCell ⟨σ.B, 8, none⟩ (.int .i64 0)).setCell ⟨σ.B, 8, none⟩ (.int .i64 1)) σ.B 99 (σ.cells s.p.e 1) := ((h2.bx.set_ 7 (.int .i64 (s.p.e : Int))).set_ 8 (.int .i64 0)).set_ 8 (.int .i64 1)
    have k3 : Kept (fun k => k = σ.B) w2 (((w2.setCell ⟨σ.B, 7, none⟩ (.int .i64 (s.p.e : Int))).setCell ⟨σ.B, 8, none⟩ (.int .i64 0)).setCell ⟨σ.B, 8, none⟩ (.int .i64 1)) := ((Kept.setCell (F := fun k => k = σ.B) (Kept.refl _ w2) (p := ⟨σ.B, 7, none⟩) (.inl rfl) _).setCell (p := ⟨σ.B, 8, none⟩) (.inl rfl) _).setCell (p := ⟨σ.B, 8, none⟩) (.inl rfl) _
    have N3 : Hid (NextS w base σ { s with epoch := s.p.e, puts := 1 } (((w2.setCell ⟨σ.B, 7, none⟩ (.int .i64 (s.p.e : Int))).setCell ⟨σ.B, 8, none⟩ (.int .i64 0)).setCell ⟨σ.B, 8, none⟩ (.int .i64 1))) := NextS.after B2 (h2.box k3 bx3)
    clear k3
    go_upto_region 8 with ((go_at_call 110; refine EC0.mono ?_; rintro e w' ⟨rfl, rfl⟩))
    revert bx3 N3
    generalize ((w2.setCell ⟨σ.B, 7, none⟩ (.int .i64 (s.p.e : Int))).setCell ⟨σ.B, 8, none⟩ (.int .i64 0)).setCell ⟨σ.B, 8, none⟩ (.int .i64 1) = w3
    intro bx3 N3
    have c7 := bx3.at_ (i := 7) (v := .int .i64 (s.p.e : Int)) rfl
    have c8 := bx3.at_ (i := 8) (v := .int .i64 1) rfl
    replace s3 : IntKind.i64.wrap ((s.p.e : Int) * 1048576 + 1) = ((s.p.e * 1048576 + 1 : Nat) : Int) := s3
    go_quiet (fail)
    go_wp2_with fail
    go_ret2
    exact ⟨by rw [← HM.out]; rfl, by rw [← HM.out]; exact N3.out.then (drewN_below w3 _)⟩
end Go.Proofs.YtendnkklbeiegaaGreatDoor
namespace Go.Proofs.YtendnkklbeiegaaGreatDoor
open StoreP JourP DiskP PageP

/-- The bytes of a name's slice. -/
def byF (n : Nm) : List UInt8 := bytesT n.1 n.2
theorem byF_len (n : Nm) : (byF n).length ≤ 4 := by
  unfold byF bytesT bytesN
  simp
  omega
/-- Among more numbers than a list has one isn't in it. -/
theorem hole (a : Nat) : ∀ (n : Nat) (L : List Nat), L.length < n → ∃ i, a ≤ i ∧ i < a + n ∧ i ∉ L
  | 0, L, h => by omega
  | n + 1, L, h => by
    by_cases hm : a + n ∈ L
    · have hl := List.length_erase_of_mem hm
      have hp := List.length_pos_of_mem hm
      obtain ⟨i, h1, h2, h3⟩ := hole a n (L.erase (a + n)) (by omega)
      exact ⟨i, h1, by omega, fun hi => h3 ((List.mem_erase_of_ne (by omega)).2 hi)⟩
    · exact ⟨a + n, by omega, by omega, hm⟩
def ok7 (n : Nm) : Prop := n.1 ≤ 4 ∧ n.2 ≤ 7
structure KeepP (i : Nat) (s : SP) (l : List StoreP.Act) (lasts : Nat) (sl gone la : List Nm) : Prop where
  k : KInv byF s.d l lasts s.puts s.fr
  st : s.st = run l
  p : s.p = logP l lasts
  ep : (s.epoch = 0 ∧ s.puts = 0) ∨ s.epoch = 2
  puts : s.puts ≤ i
  many : s.many ≤ i
  len : l.length ≤ i
  put_in : ∀ n x, StoreP.Act.put n x ∈ l → n ∈ sl ∧ x.at_ < 511
  last_in : ∀ n ∈ la, ∃ x, StoreP.Act.put n x ∈ l.take lasts
  sl_in : ∀ n ∈ sl, ∃ x, StoreP.Act.put n x ∈ l
  gone_in : ∀ n, StoreP.Act.drop n ∈ l → n ∈ gone
  small : ∀ n ∈ sl, ok7 n
  lsl : sl.length ≤ i
  lgone : gone.length ≤ i
  lla : la.length ≤ 40 * i
section
variable {i : Nat} {s : SP} {l : List StoreP.Act} {lasts : Nat} {sl gone la : List Nm}
theorem KeepP.start (s : SP) (h1 : s.st = St.empty) (h2 : s.p = logP [] 0) (h3 : s.epoch = 0) (h4 : s.puts = 0) (h5 : s.many = 0) (h6 : KInv byF s.d [] 0 0 s.fr) : KeepP 0 s [] 0 [] [] [] :=
  ⟨by rw [h4]; exact h6, h1, h2, .inl ⟨h3, h4⟩, by omega, by omega, Nat.le_refl _, fun _ _ h => (by cases h), fun _ h => (by cases h), fun _ h => (by cases h), fun _ h => (by cases h), fun _ h => (by cases h), Nat.le_refl _, Nat.le_refl _, Nat.le_refl _⟩
theorem KeepP.mono (h : KeepP i s l lasts sl gone la) {j : Nat} (hj : i ≤ j) : KeepP j s l lasts sl gone la :=
  { h with puts := Nat.le_trans h.puts hj, many := Nat.le_trans h.many hj, len := Nat.le_trans h.len hj, lsl := Nat.le_trans h.lsl hj, lgone := Nat.le_trans h.lgone hj, lla := by have := h.lla; omega }
theorem KeepP.la_small (h : KeepP i s l lasts sl gone la) : ∀ n ∈ la, ok7 n := fun n hn => by
  obtain ⟨x, hx⟩ := h.last_in n hn
  exact h.small n (h.put_in n x (List.mem_of_mem_take hx)).1
theorem KeepP.okSl (h : KeepP i s l lasts sl gone la) (m : Nm) (hm : (s.st.sl m).isSome = true) : okN m := by
  obtain ⟨x, hx⟩ := Option.isSome_iff_exists.1 hm
  rw [h.st] at hx
  exact (h.k.ok _ (run_put hx)).1
theorem KeepP.slot (h : KeepP i s l lasts sl gone la) {m : Nm} {x : Slot} (hx : s.st.sl m = some x) : 128 ≤ x.at_ ∧ x.at_ < 512 ∧ ¬ s.fr x.at_ := by
  rw [h.st] at hx
  have h1 := h.k.s.range m x (run_put hx)
  exact ⟨h1.1, h1.2.1, fun hf => ((h.k.free _).1 hf).2.2 m x hx rfl⟩
theorem KeepP.two_free (h : KeepP i s l lasts sl gone la) (hi : i ≤ 40) : ∃ a b, s.fr a ∧ s.fr b ∧ a < b := by
  have hl := h.len
  obtain ⟨a, h1, h2, h3⟩ := hole 128 41 (l.filterMap fun | .put _ x => some x.at_ | _ => none) (Nat.lt_of_le_of_lt (List.length_filterMap_le _ _) (by omega))
  refine ⟨a, 511, (h.k.free _).2 ⟨h1, by omega, fun n x hx e => h3 ?_⟩, (h.k.free _).2 ⟨by omega, by omega, fun n x hx e => ?_⟩, by omega⟩
  · rw [List.mem_filterMap]
    exact ⟨_, run_put hx, by rw [← e]⟩
  · have := (h.put_in n x (run_put hx)).2
    omega
theorem KeepP.fr_range (h : KeepP i s l lasts sl gone la) : ∀ a, s.fr a → 128 ≤ a ∧ a < 512 := fun a ha => ⟨((h.k.free a).1 ha).1, ((h.k.free a).1 ha).2.1⟩
theorem KeepP.wait (h : KeepP i s l lasts sl gone la) : s.d.wait.length ≤ 3 * i := Nat.le_trans h.k.few (by have := h.len; omega)
theorem KeepP.puts_eq (h : KeepP i s l lasts sl gone la) : putsN s = s.puts + 1 ∧ s.p.e = 2 := by
  have e : s.p.e = 2 := by rw [h.p]; rfl
  refine ⟨?_, e⟩
  unfold putsN
  rw [e]
  rcases h.ep with ⟨h1, h2⟩ | h1
  · rw [if_neg (by omega), h2]
  · rw [if_pos h1]
/-- The log of the program's says what the plain one says. -/
def InvS (s : SP) : Prop := Inv s.d s.p.b s.p.o s.p.half s.p.e s.p.rs s.p.lasts
theorem KeepP.inv (h : KeepP i s l lasts sl gone la) (hJ : InvS s) : Inv s.d 64 0 64 2 (l.map StoreP.Act.toRec) lasts := by
  unfold InvS at hJ
  rw [h.p] at hJ
  exact hJ
theorem KeepP.halves (h : KeepP i s l lasts sl gone la) : s.p.b + s.p.half ≤ 128 ∧ s.p.o + s.p.half ≤ 128 := by
  rw [h.p]
  show (0 + 1 * 64) + 64 ≤ 128 ∧ (0 + (1 - 1) * 64) + 64 ≤ 128
  exact ⟨by decide, by decide⟩
theorem KeepP.addE (h : KeepP i s l lasts sl gone la) (hi : i ≤ 40) {a : StoreP.Act} (ha : a.ok) : addE 128 s.p a.toRec = 0 := by
  rw [h.p]
  have h1 := sum_small _ (acts_small h.k.ok)
  have h2 := nd_one (Act.small ha)
  have h3 := Act.small ha
  have hl := h.len
  unfold JourP.addE logP
  rw [if_neg (by omega), h1, h2, List.length_map, if_neg (by simp only; omega)]
theorem KeepP.add_wait (h : KeepP i s l lasts sl gone la) (hi : i ≤ 40) (hJ : InvS s) {a : StoreP.Act} (ha : a.ok) : (addDS 128 s.p s.d a.toRec).wait.length ≤ 3 * i + 1 := by
  obtain ⟨e1, e2, at_, mark, hat, e3⟩ := add_disk (h.inv hJ) h.k.size h.k.ok (by have := h.len; omega) ha
  rw [h.p, e3, putD_wait]
  have := h.wait
  omega
/-- A note or a mark was told, and lasts. -/
theorem KeepP.tell (h : KeepP i s l lasts sl gone la) (hi : i ≤ 40) (hJ : InvS s) {a : StoreP.Act} (ha : a.ok) (hp : ∀ n x, a ≠ .put n x) (hd : ∀ n, a ≠ .drop n) :
    KeepP (i + 1) { s with st := s.st.heed a, many := s.many + 1, p := (s.p.addS 128 a.toRec).sync, d := (addDS 128 s.p s.d a.toRec).flush } (l ++ [a]) (l ++ [a]).length sl gone la := by
  obtain ⟨e1, e2, at_, mark, hat, e3⟩ := add_disk (h.inv hJ) h.k.size h.k.ok (by have := h.len; omega) ha
  have hll := h.len
  have hin : ∀ n x, StoreP.Act.put n x ∈ l ++ [a] → StoreP.Act.put n x ∈ l := fun n x hx => by
    rcases List.mem_append.1 hx with hx | hx
    · exact hx
    · simp at hx; exact absurd hx.symm (hp n x)
  refine ⟨?_, ?_, ?_, h.ep, Nat.le_succ_of_le h.puts, Nat.succ_le_succ h.many, by simp; omega, fun n x hx => h.put_in n x (hin n x hx), fun n hn => ?_, fun n hn => ?_, fun n hn => ?_, h.small, Nat.le_succ_of_le h.lsl, Nat.le_succ_of_le h.lgone, by have := h.lla; omega⟩
  · show KInv byF (addDS 128 s.p s.d a.toRec).flush (l ++ [a]) (l ++ [a]).length s.puts s.fr
    rw [h.p, e3]
    exact (h.k.tell ha hp hd hat mark _).sync
  · show s.st.heed a = _
    rw [run_snoc, h.st]
  · show (s.p.addS 128 a.toRec).sync = _
    rw [h.p, e2]
    unfold PJ.sync logP
    simp
  · obtain ⟨x, hx⟩ := h.last_in n hn
    exact ⟨x, by rw [List.take_length]; exact List.mem_append_left _ (List.mem_of_mem_take hx)⟩
  · obtain ⟨x, hx⟩ := h.sl_in n hn
    exact ⟨x, List.mem_append_left _ hx⟩
  · rcases List.mem_append.1 hn with hn | hn
    · exact h.gone_in n hn
    · simp at hn; exact absurd hn.symm (hd n)
/-- Sync. -/
theorem KeepP.sync (h : KeepP i s l lasts sl gone la) (hi : i ≤ 40) : KeepP (i + 1) { s with p := s.p.sync, d := s.d.flush } l l.length sl gone (la ++ sl) := by
  have h2 := h.lsl
  have h3 := h.lla
  refine ⟨h.k.sync, h.st, ?_, h.ep, Nat.le_succ_of_le h.puts, Nat.le_succ_of_le h.many, Nat.le_succ_of_le h.len, h.put_in, fun n hn => ?_, h.sl_in, h.gone_in, h.small, Nat.le_succ_of_le h.lsl, Nat.le_succ_of_le h.lgone, by simp; omega⟩
  · show s.p.sync = _
    rw [h.p]
    unfold PJ.sync logP
    simp
  · rw [List.take_length]
    rcases List.mem_append.1 hn with hn | hn
    · obtain ⟨x, hx⟩ := h.last_in n hn
      exact ⟨x, List.mem_of_mem_take hx⟩
    · exact h.sl_in n hn
theorem take_in {α : Type} {a b : α} {l : List α} {n : Nat} (h : a ∈ l.take n) : a ∈ (l ++ [b]).take n := by
  rw [List.take_append]
  exact List.mem_append_left _ h
/-- A slice was put. -/
theorem KeepP.put (h : KeepP i s l lasts sl gone la) (hi : i ≤ 40) (hJ : InvS s) {n : Nm} (hn7 : ok7 n) (hno : s.st.sl n = none) (hb : 1 ≤ (byF n).length) {a : Nat} (hfr : s.fr a) (h511 : a < 511) :
    KeepP (i + 1) { s with st := s.st.heed (.put n ⟨a, (byF n).length, s.p.e * 1048576 + putsN s⟩), fr := fun i => s.fr i ∧ i ≠ a, epoch := s.p.e, puts := putsN s, many := s.many + 1, p := s.p.addS 128 (StoreP.Act.put n ⟨a, (byF n).length, s.p.e * 1048576 + putsN s⟩).toRec, d := addDS 128 s.p (putD s.d a 83 ((s.p.e * 1048576 + putsN s : Nat) : Int) (byF n) 1) (StoreP.Act.put n ⟨a, (byF n).length, s.p.e * 1048576 + putsN s⟩).toRec }
      (l ++ [.put n ⟨a, (byF n).length, s.p.e * 1048576 + putsN s⟩]) lasts (sl ++ [n]) gone la := by
  obtain ⟨q1, q2⟩ := h.puts_eq
  have hb4 := byF_len n
  have hpu := h.puts
  have hll := h.len
  rw [q1, q2]
  obtain ⟨x, hx⟩ : ∃ x : Slot, x = ⟨a, (byF n).length, 2 * 1048576 + (s.puts + 1)⟩ := ⟨_, rfl⟩
  have hm : x.mark = 2097152 + (s.puts + 1) := by rw [hx]
  have hfr' := (h.k.free a).1 hfr
  have hok : (StoreP.Act.put n x).ok := by
    rw [hx]
    exact ⟨⟨by have := hn7.1; omega, by have := hn7.2; omega⟩, hfr'.1, hfr'.2.1, hb, hb4, by show 2 * 1048576 + (s.puts + 1) ≤ _; omega⟩
  have hiv := (h.inv hJ).out a 83 ((2 * 1048576 + (s.puts + 1) : Nat) : Int) (byF n) 1 (.inr (by have := hfr'.1; omega)) (.inr (by have := hfr'.1; omega))
  obtain ⟨e1, e2, at_, mark, hat, e3⟩ := add_disk hiv h.k.size h.k.ok (by omega) hok
  have hst := h.st
  have hK := h.k.put n x (by rw [← hst]; exact hno) (by rw [hx]; exact hfr) hm hok (by rw [hx]) hat mark (StoreP.Act.put n x).toRec.bytes
  have hat2 : x.at_ = a := by rw [hx]
  have hmk : x.mark = 2 * 1048576 + (s.puts + 1) := by rw [hx]
  rw [hat2, hmk] at hK
  rw [← hx]
  have hin : ∀ m y, StoreP.Act.put m y ∈ l ++ [StoreP.Act.put n x] → StoreP.Act.put m y ∈ l ∨ (m = n ∧ y = x) := fun m y hy => by
    rcases List.mem_append.1 hy with hy | hy
    · exact .inl hy
    · simp at hy; exact .inr hy
  refine ⟨?_, ?_, ?_, .inr rfl, Nat.succ_le_succ hpu, Nat.succ_le_succ h.many, by simp; omega, fun m y hy => ?_, fun m hm => ?_, fun m hm => ?_, fun m hm => ?_, fun m hm => ?_, by have := h.lsl; simp; omega, Nat.le_succ_of_le h.lgone, by have := h.lla; omega⟩
  · show KInv byF (addDS 128 s.p (putD s.d a 83 ((2 * 1048576 + (s.puts + 1) : Nat) : Int) (byF n) 1) (StoreP.Act.put n x).toRec) _ lasts (s.puts + 1) (fun i => s.fr i ∧ i ≠ a)
    rw [h.p, e3]
    exact hK
  · show s.st.heed (StoreP.Act.put n x) = _
    rw [run_snoc, hst]
  · show s.p.addS 128 _ = _
    rw [h.p, e2]
  · rcases hin m y hy with h1 | ⟨rfl, rfl⟩
    · exact ⟨List.mem_append_left _ (h.put_in m y h1).1, (h.put_in m y h1).2⟩
    · exact ⟨by simp, by omega⟩
  · obtain ⟨y, hy⟩ := h.last_in m hm
    exact ⟨y, take_in hy⟩
  · rcases List.mem_append.1 hm with hm | hm
    · obtain ⟨y, hy⟩ := h.sl_in m hm
      exact ⟨y, List.mem_append_left _ hy⟩
    · simp at hm; subst hm; exact ⟨x, by simp⟩
  · rcases List.mem_append.1 hm with hm | hm
    · exact h.gone_in m hm
    · simp at hm
  · rcases List.mem_append.1 hm with hm | hm
    · exact h.small m hm
    · simp at hm; subst hm; exact hn7
/-- A slice was dropped. -/
theorem KeepP.drop (h : KeepP i s l lasts sl gone la) (hi : i ≤ 40) (hJ : InvS s) {n : Nm} {x : Slot} (hx : s.st.sl n = some x) :
    KeepP (i + 1) { s with st := s.st.heed (.drop n), many := s.many + 1, p := s.p.addS 128 (StoreP.Act.drop n).toRec, d := addDS 128 s.p s.d (StoreP.Act.drop n).toRec, fr := fun i => s.fr i ∨ i = x.at_ } (l ++ [.drop n]) lasts sl (gone ++ [n]) la := by
  have hll := h.len
  have hn : okN n := h.okSl n (by rw [hx]; rfl)
  have hok : (StoreP.Act.drop n).ok := hn
  obtain ⟨e1, e2, at_, mark, hat, e3⟩ := add_disk (h.inv hJ) h.k.size h.k.ok (by omega) hok
  have hin : ∀ m y, StoreP.Act.put m y ∈ l ++ [StoreP.Act.drop n] → StoreP.Act.put m y ∈ l := fun m y hy => by
    rcases List.mem_append.1 hy with hy | hy
    · exact hy
    · simp at hy
  refine ⟨?_, ?_, ?_, h.ep, Nat.le_succ_of_le h.puts, Nat.succ_le_succ h.many, by simp; omega, fun m y hy => h.put_in m y (hin m y hy), fun m hm => ?_, fun m hm => ?_, fun m hm => ?_, h.small, Nat.le_succ_of_le h.lsl, by have := h.lgone; simp; omega, by have := h.lla; omega⟩
  · show KInv byF (addDS 128 s.p s.d (StoreP.Act.drop n).toRec) _ lasts s.puts _
    rw [h.p, e3]
    exact h.k.drop (by rw [← h.st]; exact hx) hat mark _
  · show s.st.heed (StoreP.Act.drop n) = _
    rw [run_snoc, h.st]
  · show s.p.addS 128 _ = _
    rw [h.p, e2]
  · obtain ⟨y, hy⟩ := h.last_in m hm
    exact ⟨y, take_in hy⟩
  · obtain ⟨y, hy⟩ := h.sl_in m hm
    exact ⟨y, List.mem_append_left _ hy⟩
  · rcases List.mem_append.1 hm with hm | hm
    · exact List.mem_append_left _ (h.gone_in m hm)
    · simp at hm; subst hm; simp
end
end Go.Proofs.YtendnkklbeiegaaGreatDoor
namespace Go.Proofs.YtendnkklbeiegaaGreatDoor
open StoreP JourP DiskP PageP

/-- What a store may hold. -/
structure StB (st : St) : Prop where
  notes : ∀ v t, st.notes v = some t → v ≤ 1000 ∧ t.length ≤ 94
  sl : ∀ n x, st.sl n = some x → okN n ∧ 128 ≤ x.at_ ∧ x.at_ < 512 ∧ 1 ≤ x.len ∧ x.len ≤ 4 ∧ x.mark ≤ 1000000000000
  marks : ∀ t ∈ st.marks, t.length ≤ 109
theorem StB.empty : StB St.empty := ⟨fun _ _ h => (by cases h), fun _ _ h => (by cases h), fun _ h => (by cases h)⟩
theorem StB.heed {st : St} (h : StB st) {a : StoreP.Act} (ha : a.ok) : StB (st.heed a) := by
  cases a with
  | note v t =>
    refine ⟨fun u s hu => ?_, h.sl, h.marks⟩
    have hu' : upd st.notes v (some t) u = some s := hu
    by_cases e : u = v
    · subst e
      rw [upd_same] at hu'
      obtain rfl := Option.some.inj hu'
      exact ha
    · rw [upd_other _ _ e] at hu'
      exact h.notes u s hu'
  | put n x =>
    refine ⟨h.notes, fun m y hm => ?_, h.marks⟩
    have hu' : upd st.sl n (some x) m = some y := hm
    by_cases e : m = n
    · subst e
      rw [upd_same] at hu'
      obtain rfl := Option.some.inj hu'
      exact ha
    · rw [upd_other _ _ e] at hu'
      exact h.sl m y hu'
  | mark t =>
    refine ⟨h.notes, h.sl, fun u hu => ?_⟩
    have hu' : u ∈ st.marks ++ [t] := hu
    rcases List.mem_append.1 hu' with hu' | hu'
    · exact h.marks u hu'
    · simp at hu'; subst hu'; exact ha
  | drop n =>
    refine ⟨h.notes, fun m y hm => ?_, h.marks⟩
    have hu' : upd st.sl n none m = some y := hm
    by_cases e : m = n
    · subst e
      rw [upd_same] at hu'
      cases hu'
    · rw [upd_other _ _ e] at hu'
      exact h.sl m y hu'
theorem StB.run {l : List StoreP.Act} (h : ∀ a ∈ l, a.ok) : StB (StoreP.run l) := by
  revert h
  refine snoc_ind (P := fun l => (∀ a ∈ l, a.ok) → StB (StoreP.run l)) (fun _ => StB.empty) (fun l a ih h => ?_) l
  rw [run_snoc]
  exact (ih fun b hb => h b (by simp [hb])).heed (h a (by simp))
theorem StB.less {st : St} (h : StB st) {f : Nm → Option Slot} (hf : ∀ n x, f n = some x → st.sl n = some x) : StB { st with sl := f } := ⟨h.notes, fun n x hx => h.sl n x (hf n x hx), h.marks⟩
instance (d : Dsk) (x : Slot) : Decidable (okB d x) := by unfold okB; exact inferInstance
/-- Some names were looked at: what wasn't told is out. -/
def slD (d : Dsk) (f : Nm → Option Slot) (done : List Nm) : Nm → Option Slot := fun n => if n ∈ done then (f n).filter (fun x => decide (okB d x)) else f n
def frD (d : Dsk) (f : Nm → Option Slot) (done : List Nm) : Nat → Prop := fun i => 128 ≤ i ∧ i < 512 ∧ ∀ n ∈ done, ∀ x, f n = some x → okB d x → x.at_ ≠ i
section
variable {d : Dsk} {f : Nm → Option Slot} {done : List Nm} {n : Nm} {x : Slot}
theorem slD_nil : slD d f [] = f := by funext m; simp [slD]
theorem frD_nil : frD d f [] = fun i => 128 ≤ i ∧ i < 512 := by funext i; simp [frD]
theorem slD_at (hn : n ∉ done) : slD d f done n = f n := if_neg hn
theorem slD_sub (m : Nm) (y : Slot) (h : slD d f done m = some y) : f m = some y := by
  unfold slD at h
  split at h
  · exact (Option.filter_eq_some_iff.1 h).1
  · exact h
theorem slD_ok (hn : n ∉ done) (hx : f n = some x) (ho : okB d x) : slD d f (done ++ [n]) = slD d f done := by
  funext m
  unfold slD
  by_cases e : m = n
  · subst e
    rw [if_pos (by simp), if_neg hn, hx]
    simp [Option.filter, ho]
  · simp [e]
theorem slD_no (hx : f n = some x) (ho : ¬ okB d x) : slD d f (done ++ [n]) = upd (slD d f done) n none := by
  funext m
  by_cases e : m = n
  · subst e
    rw [upd_same]
    unfold slD
    rw [if_pos (by simp), hx]
    simp [Option.filter, ho]
  · rw [upd_other _ _ e]
    unfold slD
    simp [e]
theorem frD_ok (hx : f n = some x) (ho : okB d x) : frD d f (done ++ [n]) = fun i => frD d f done i ∧ i ≠ x.at_ := by
  funext i
  refine propext ⟨fun ⟨h1, h2, h3⟩ => ⟨⟨h1, h2, fun m hm => h3 m (by simp [hm])⟩, fun e => h3 n (by simp) x hx ho e.symm⟩, fun ⟨⟨h1, h2, h3⟩, h4⟩ => ⟨h1, h2, fun m hm y hy hyo => ?_⟩⟩
  rcases List.mem_append.1 hm with hm | hm
  · exact h3 m hm y hy hyo
  · simp at hm
    subst hm
    obtain rfl := Option.some.inj (hx.symm.trans hy)
    exact fun e => h4 e.symm
theorem frD_no (hx : f n = some x) (ho : ¬ okB d x) : frD d f (done ++ [n]) = frD d f done := by
  funext i
  refine propext ⟨fun ⟨h1, h2, h3⟩ => ⟨h1, h2, fun m hm => h3 m (by simp [hm])⟩, fun ⟨h1, h2, h3⟩ => ⟨h1, h2, fun m hm y hy hyo => ?_⟩⟩
  rcases List.mem_append.1 hm with hm | hm
  · exact h3 m hm y hy hyo
  · simp at hm
    subst hm
    obtain rfl := Option.some.inj (hx.symm.trans hy)
    exact absurd hyo ho
end
section
variable {l : List StoreP.Act} {d : Dsk}
/-- What is told as the slot says stands there. -/
theorem StoreP.Behind.told_ok {by_ : Nm → List UInt8} (h : Behind by_ l d) {n : Nm} {x : Slot} (hx : StoreP.Act.put n x ∈ l) (hok : okB d x) : d.told[x.at_]? = some (sliceS by_ n x) := by
  obtain ⟨r1, r2, _⟩ := h.range n x hx
  obtain ⟨t, ht⟩ := h.told_at r2
  rcases h.is_ _ _ r1 ht with (rfl | ⟨m, y, h1, h2, rfl⟩) | rfl
  · exfalso
    have := hok.1
    rw [getR_zero d x.at_ h.off (by rw [h.size]; exact ht)] at this
    exact absurd this (by decide)
  · have g := get_slice h.off h.size (h.small m y h1).1 (h.small m y h1).2 ht
    have h3 := hok.2.2.1
    rw [g] at h3
    obtain ⟨rfl, rfl⟩ := h.same m y n x h1 hx (by have : (y.mark : Int) = (x.mark : Int) := h3; omega)
    exact ht
  · exact absurd hok.1 (get_torn h.off ht)
/-- A disk that tells the same behind the log tells the same slices. -/
theorem StoreP.Behind.okB_same {by_ : Nm → List UInt8} {d' : Dsk} (h : Behind by_ l d) (h' : Behind by_ l d') (hs : ∀ s, 128 ≤ s → d'.told[s]? = d.told[s]?) {n : Nm} {x : Slot} (hx : StoreP.Act.put n x ∈ l) (hok : okB d x) : okB d' x :=
  h'.stands hx ((hs _ (h.range n x hx).1).trans (h.told_ok hx hok))
/-- A slot's sector is free as long as it wasn't claimed for it. -/
theorem StoreP.Behind.frD_free {by_ : Nm → List UInt8} (h : Behind by_ l d) {f : Nm → Option Slot} (hf : ∀ m y, f m = some y → StoreP.Act.put m y ∈ l) {done : List Nm} {n : Nm} {x : Slot} (hn : n ∉ done) (hx : f n = some x) (ho : okB d x) : frD d f done x.at_ := by
  obtain ⟨r1, r2, _⟩ := h.range n x (hf n x hx)
  refine ⟨r1, r2, fun m hm y hy hyo e => hn ?_⟩
  rw [← h.no_clash (hf m y hy) (hf n x hx) hyo ho e]
  exact hm
theorem frD_last {f : Nm → Option Slot} (hf : ∀ m y, f m = some y → y.at_ < 511) (done : List Nm) : frD d f done 511 := ⟨by omega, by omega, fun m _ y hy _ e => by have := hf m y hy; omega⟩
end
end Go.Proofs.YtendnkklbeiegaaGreatDoor
namespace Go.Proofs.YtendnkklbeiegaaGreatDoor
open StoreP JourP DiskP PageP

structure OpenedP (by_ : Nm → List UInt8) (l : List StoreP.Act) (d0 : Dsk) (U E k : Nat) (s : SP) : Prop where
  p : ∃ ks : List Rec, s.p = ⟨0, 64, 1 - (1 - U), E + 1 + 1, ks, ks.length⟩ ∧ ks.length ≤ k
  notes : s.st.notes = (run (l.take k)).notes
  marks : s.st.marks = (run (l.take k)).marks
  sl : ∀ n x, s.st.sl n = some x ↔ ((run (l.take k)).sl n = some x ∧ okB s.d x)
  fr : ∀ i, s.fr i ↔ 128 ≤ i ∧ i < 512 ∧ ∀ n x, s.st.sl n = some x → x.at_ ≠ i
  behind : Behind by_ l s.d
  told : ∀ i, 128 ≤ i → s.d.told[i]? = d0.told[i]?
  wait : s.d.wait = []
  epoch : s.epoch = 0
  puts : s.puts = 0
  many : s.many ≤ k
  x : s.X = fun _ => False
/-- A store while the log's records are heeded; while the names are looked at. -/
def heedS (s0 : SP) (l : List StoreP.Act) (m : Nat) : SP := { s0 with st := run (l.take m), many := m }
def nameS (s1 : SP) (d : Dsk) (f : Nm → Option Slot) (ss : List Nm) (m : Nat) : SP := { s1 with st := { s1.st with sl := slD d f (ss.take m) }, fr := frD d f (ss.take m) }
theorem heedS_succ (s0 : SP) {l : List StoreP.Act} {m : Nat} {a : StoreP.Act} (h : l[m]? = some a) : heedS s0 l (m + 1) = { heedS s0 l m with st := (heedS s0 l m).st.heed a, many := (heedS s0 l m).many + 1 } := by
  unfold heedS
  have : l.take (m + 1) = l.take m ++ [a] := by rw [List.take_add_one, h]; rfl
  rw [this, run_snoc]
theorem nameS_zero {s1 : SP} {d : Dsk} {f : Nm → Option Slot} (ss : List Nm) (hf : s1.st.sl = f) (hr : s1.fr = fun s => 128 ≤ s ∧ s < 512) : nameS s1 d f ss 0 = s1 := by
  unfold nameS
  rw [List.take_zero, slD_nil, frD_nil, ← hf, ← hr]
theorem take_snoc {ss : List Nm} {m : Nat} {n : Nm} (h : ss[m]? = some n) : ss.take (m + 1) = ss.take m ++ [n] := by rw [List.take_add_one, h]; rfl
theorem take_new {ss : List Nm} {m : Nat} {n : Nm} (hd : ss.Nodup) (h : ss[m]? = some n) : n ∉ ss.take m := fun hm => by
  obtain ⟨i, hi⟩ := List.getElem?_of_mem hm
  rw [List.getElem?_take] at hi
  split at hi
  · rename_i him
    have := (List.getElem?_inj (List.getElem?_eq_some_iff.1 hi).1 hd).1 (hi.trans h.symm)
    omega
  · cases hi
theorem nameS_ok (s1 : SP) {d : Dsk} {f : Nm → Option Slot} {ss : List Nm} {m : Nat} {n : Nm} {x : Slot} (hd : ss.Nodup) (h : ss[m]? = some n) (hx : f n = some x) (ho : okB d x) : nameS s1 d f ss (m + 1) = { nameS s1 d f ss m with fr := fun i => (nameS s1 d f ss m).fr i ∧ i ≠ x.at_ } := by
  unfold nameS
  rw [take_snoc h, slD_ok (take_new hd h) hx ho, frD_ok hx ho]
theorem nameS_no (s1 : SP) {d : Dsk} {f : Nm → Option Slot} {ss : List Nm} {m : Nat} {n : Nm} {x : Slot} (h : ss[m]? = some n) (hx : f n = some x) (ho : ¬ okB d x) : nameS s1 d f ss (m + 1) = { nameS s1 d f ss m with st := { (nameS s1 d f ss m).st with sl := upd (nameS s1 d f ss m).st.sl n none } } := by
  unfold nameS
  rw [take_snoc h, slD_no hx ho, frD_no hx ho]
/-- All is opened. -/
theorem opened_of {by_ : Nm → List UInt8} {l : List StoreP.Act} {d0 D1 : Dsk} {U E k : Nat} (hB : Behind by_ l d0) (hU : U ≤ 1) (hE : E ≤ 1000) (hO : Base d0 (0 + (1 - U) * 64) (0 + U * 64) 64 (E + 1) ((l.map StoreP.Act.toRec).take k)) (h1 : D1 = turnD d0 (0 + (1 - U) * 64) 64 (E + 1) ((l.map StoreP.Act.toRec).take k))
    {p : PJ} (hp : p = ⟨0, 64, 1 - U, E + 1, (l.map StoreP.Act.toRec).take k, ((l.map StoreP.Act.toRec).take k).length⟩) (hJ : Inv D1 p.b p.o p.half p.e p.rs p.lasts) {ks : List Rec} (hks : ∀ r ∈ ks, r.body.length ≤ 109) (hkl : ks.length ≤ k) (hk40 : k ≤ 40) {ss : List Nm} (hN : ∀ n, n ∈ ss ↔ ((run (l.take k)).sl n).isSome = true) :
    OpenedP by_ l d0 U E k { nameS (heedS (⟨p, D1, St.empty, fun s => 128 ≤ s ∧ s < 512, 0, 0, 0, fun _ => False⟩ : SP) (l.take k) (l.take k).length) D1 (run (l.take k)).sl ss ss.length with p := p.turned ks, d := turnD D1 p.o p.half (p.e + 1) ks } := by
  have hB1 : Behind by_ l D1 := by
    rw [h1]
    exact hB.turn hO (by rcases (show U = 0 ∨ U = 1 by omega) with rfl | rfl <;> decide)
  have hbase : Base D1 p.o p.b p.half (p.e + 1) ks := hJ.base.over (by rw [hp]; show E + 1 < 1000000; omega) (by omega) (fun r hr => by have := hks r hr; omega) (by rw [hB1.size, sum_small _ hks, hp]; show 1 + ks.length ≤ 64; omega)
  have ho : p.o + p.half ≤ 128 := by
    rw [hp]
    rcases (show U = 0 ∨ U = 1 by omega) with rfl | rfl
    · show 0 + (1 - (1 - 0)) * 64 + 64 ≤ 128; decide
    · show 0 + (1 - (1 - 1)) * 64 + 64 ≤ 128; decide
  have hB2 : Behind by_ l (turnD D1 p.o p.half (p.e + 1) ks) := hB1.turn hbase ho
  have t1 : ∀ i, 128 ≤ i → D1.told[i]? = d0.told[i]? := fun i hi => by
    rw [h1]
    exact turn_far hO (by rcases (show U = 0 ∨ U = 1 by omega) with rfl | rfl <;> omega)
  have t2 : ∀ i, 128 ≤ i → (turnD D1 p.o p.half (p.e + 1) ks).told[i]? = D1.told[i]? := fun i hi => turn_far hbase (by omega)
  have hput : ∀ n x, (run (l.take k)).sl n = some x → StoreP.Act.put n x ∈ l := fun n x hx => List.mem_of_mem_take (run_put hx)
  have hok : ∀ n x, (run (l.take k)).sl n = some x → (okB D1 x ↔ okB (turnD D1 p.o p.half (p.e + 1) ks) x) := fun n x hx => ⟨hB1.okB_same hB2 t2 (hput n x hx), hB2.okB_same hB1 (fun s hs => (t2 s hs).symm) (hput n x hx)⟩
  have hsl : ∀ n x, slD D1 (run (l.take k)).sl ss n = some x ↔ ((run (l.take k)).sl n = some x ∧ okB D1 x) := fun n x => by
    unfold slD
    by_cases hn : n ∈ ss
    · rw [if_pos hn, Option.filter_eq_some_iff]
      simp
    · rw [if_neg hn]
      have h0 : (run (l.take k)).sl n = none := by
        rw [hN n] at hn
        simpa using hn
      rw [h0]
      simp
  refine ⟨⟨ks, ?_, hkl⟩, ?_, ?_, fun n x => ?_, fun i => ?_, hB2, fun i hi => (t2 i hi).trans (t1 i hi), (turnD_same _ _ _ _ _).2.2.2, rfl, rfl, ?_, rfl⟩
  · show p.turned ks = _
    rw [hp]
    rfl
  · show (run ((l.take k).take (l.take k).length)).notes = _
    rw [List.take_length]
  · show (run ((l.take k).take (l.take k).length)).marks = _
    rw [List.take_length]
  · show slD D1 (run (l.take k)).sl (ss.take ss.length) n = some x ↔ _
    rw [List.take_length, hsl]
    exact and_congr_right fun hx => hok n x hx
  · show frD D1 (run (l.take k)).sl (ss.take ss.length) i ↔ 128 ≤ i ∧ i < 512 ∧ ∀ n x, slD D1 (run (l.take k)).sl (ss.take ss.length) n = some x → x.at_ ≠ i
    rw [List.take_length]
    refine ⟨fun ⟨a, b, c⟩ => ⟨a, b, fun n x hx => ?_⟩, fun ⟨a, b, c⟩ => ⟨a, b, fun n _ x hx hxo => c n x ((hsl n x).2 ⟨hx, hxo⟩)⟩⟩
    obtain ⟨h3, h4⟩ := (hsl n x).1 hx
    exact c n ((hN n).2 (by rw [h3]; rfl)) x h3 h4
  · show (l.take k).length ≤ k
    rw [List.length_take]
    omega
end Go.Proofs.YtendnkklbeiegaaGreatDoor
