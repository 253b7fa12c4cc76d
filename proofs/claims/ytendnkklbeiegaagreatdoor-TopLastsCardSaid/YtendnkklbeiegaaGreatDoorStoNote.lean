/-
  Walk: a note is kept.
-/
import Derived.Test.YtendnkklbeiegaaGreatDoorStoMark
namespace Go.Proofs.YtendnkklbeiegaaGreatDoor
open Go.RowKit Go.Maps StoreP JourP DiskP PageP

/-- 'v, ok := m[k]', as a fact of the world. -/
theorem MapV.look_ok_run {w : World} {t K E : TypeId} {b m : Nat} {F : Value → Option Value} (h : MapV w K b m F) (hK : Keyed Tryz.prog K) (ht : Tryz.prog.underlying t = some (.map K E)) (z : Value) (hz : ∀ w, (zeroValue E).run Tryz.prog w = .ok z w) {key : Value} {kl : Lit} (hkey : keyOf Tryz.prog K key = some kl) :
    (Instr.lookup t (.map (some b)) key true).run Tryz.prog w = .ok (.tuple #[(F key).getD z, .bool (F key).isSome]) w := by
  obtain ⟨D, h, _, h'⟩ := h
  obtain ⟨v, ps, hrun, hv⟩ := h.look_ok hK ht (hz w) (zd := .held z) (zp := []) rfl hkey
  rw [(h' key kl hkey).2 z] at hv
  have e3 : v = (F key).getD z := DataW.held.inj (Prod.mk.inj (Option.some.inj hv)).1
  rw [e3, (h' key kl hkey).1] at hrun
  exact hrun
set_option maxRecDepth 100000 in
set_option maxHeartbeats 1600000 in
theorem note_calls (σ : StoL) (s : SP) (v : Nat) (t : List UInt8) (hv : v ≤ 1000) (ht : t.length ≤ 2000) (w : World) (base : Nat) (h : StoOK w base σ s) (hG : Glob w base) (hE : addE 128 s.p (StoreP.Act.note v t).toRec = 0) (hw : s.d.wait.length ≤ 50000) (hw2 : (addDS 128 s.p s.d (StoreP.Act.note v t).toRec).wait.length ≤ 60000) (hm : s.many ≤ 999) :
    Calls Tryz.prog 20 #[.pointer (some ⟨σ.B, 0, none⟩), .int .i64 (v : Int), .string (bstr t)] w
      (RetSto w base σ { s with st := s.st.heed (.note v t), many := s.many + 1, p := (s.p.addS 128 (StoreP.Act.note v t).toRec).sync, d := (addDS 128 s.p s.d (StoreP.Act.note v t).toRec).flush }) := by
  have hcn := h.cnt
  have htz : (bstr t).size = t.length := rfl
  have d1 : decide (3000 < (t.length : Int)) = false := decide_eq_false (by omega)
  have d1' : ¬ 3000 < (t.length : Int) := by omega
  have RC := fun w' => right_sto_calls (v : Int) w' (by omega) (by omega)
  have B1 : Below w.heap.size w ((w.alloc (.cells #[.pointer (some ⟨σ.B, 0, none⟩)] 31)).alloc (.cells #[.int .i64 (v : Int)] 2)) := ((Below.refl _ _).alloc (Nat.le_refl _) _).alloc (by simp) _
  have b1 : Boxed ((w.alloc (.cells #[.pointer (some ⟨σ.B, 0, none⟩)] 31)).alloc (.cells #[.int .i64 (v : Int)] 2)) w.heap.size 31 (.pointer (some ⟨σ.B, 0, none⟩)) := (Boxed.new w _ _).alloc _
  have b2 := Boxed.new (w.alloc (.cells #[.pointer (some ⟨σ.B, 0, none⟩)] 31)) 2 (.int .i64 (v : Int))
  rw [World.size_alloc] at b2
  have s1 : ((w.alloc (.cells #[.pointer (some ⟨σ.B, 0, none⟩)] 31)).alloc (.cells #[.int .i64 (v : Int)] 2)).heap.size = w.heap.size + 2 := by simp
  have c1 := b1.cell
  have c2 := b2.cell
  go_enter Tryz.func20, Tryz.ntmps20
  go_wp2_with (go_at_call 56; refine (RC _).mono ?_; rintro e w' ⟨rfl, rfl⟩)
  revert B1 b1 b2 s1 c1 c2
  generalize (w.alloc (.cells #[.pointer (some ⟨σ.B, 0, none⟩)] 31)).alloc (.cells #[.int .i64 (v : Int)] 2) = w1
  intro B1 b1 b2 s1 c1 c2
  have h1 := h.below B1
  have hkl := keyOf_nt v (by omega)
  have c3 := h1.bx.at_ (i := 4) (v := .map (some σ.N)) rfl
  obtain ⟨bs, hbs⟩ : ∃ bs, (encN s.st.notes (.int .i64 (v : Int))).getD (.string ⟨#[]⟩) = .string bs := by
    rw [encN_at]
    cases s.st.notes v with
    | none => exact ⟨_, rfl⟩
    | some x => exact ⟨_, rfl⟩
  have S5 : ∀ W', Below w1.heap.size w1 W' → (W'.cell? ⟨w.heap.size, 0, none⟩ = some (.pointer (some ⟨σ.B, 0, none⟩)) ∧ W'.cell? ⟨w.heap.size + 1, 0, none⟩ = some (.int .i64 (v : Int)) ∧ W'.cell? ⟨σ.B, 4, none⟩ = some (.map (some σ.N)) ∧ (Instr.lookup 94 (.map (some σ.N)) (.int .i64 (v : Int)) true).run Tryz.prog W' = .ok (.tuple #[.string bs, .bool (encN s.st.notes (.int .i64 (v : Int))).isSome]) W') := fun W' b => by
    have hl := MapV.look_ok_run (t := 94) (E := 9) (h1.below b).nt ntKeyed Tryz.underlying94 (.string ⟨#[]⟩) (fun w => Tryz.zeroValue9 w) hkl
    rw [hbs] at hl
    exact ⟨cell_bel b c1, cell_bel b c2, cell_bel b c3, hl⟩
  generalize (encN s.st.notes (.int .i64 (v : Int))).isSome = ob at S5
  clear d1 d1' htz hbs
  refine wp_mono (Q := fun e a' w' => match e with
    | .normal => ∃ p7 p8 : Value, a' = { tmps := #[.pointer (some ⟨σ.B, 0, none⟩), .int .i64 (v : Int), .string (bstr t), .pointer (some ⟨w.heap.size, 0, none⟩), .pointer (some ⟨w.heap.size + 1, 0, none⟩), undef, .int .i64 0, p7, p8, undef, .pointer (some ⟨σ.B, 0, none⟩), .bool false, .int .i64 (v : Int), .bool true, .bool false, .bool false, .string (bstr t), .int .i64 (t.length : Int), .bool false, .bool false, .tuple #[.string bs, .bool ob], .pointer (some ⟨σ.B, 0, none⟩), .pointer (some ⟨σ.B, 0, none⟩), .pointer (some ⟨σ.B, 4, none⟩), .map (some σ.N), .int .i64 (v : Int), .tuple #[.string bs, .bool ob], .string bs, .bool ob, undef, undef, undef, undef, undef, undef, undef, undef, undef, undef, undef, undef, undef, undef, undef, undef, undef, undef, undef, undef, undef, undef, undef, undef], defers := [] } ∧ Below w1.heap.size w1 w'
    | _ => False) ?_ ?_
  · go_region_held (fun wq => wq.cell? ⟨w.heap.size, 0, none⟩ = some (.pointer (some ⟨σ.B, 0, none⟩)) ∧ wq.cell? ⟨w.heap.size + 1, 0, none⟩ = some (.int .i64 (v : Int)) ∧ wq.cell? ⟨σ.B, 4, none⟩ = some (.map (some σ.N)) ∧ (Instr.lookup 94 (.map (some σ.N)) (.int .i64 (v : Int)) true).run Tryz.prog wq = .ok (.tuple #[.string bs, .bool ob]) wq)
    (exact S5 _ (by repeat' (first | exact Below.refl _ _ | refine Below.drew ?_ | refine Below.alloc ?_ (by first | (simp; done) | (simp; omega)) _ | refine Below.setCell ?_ (by first | (simp; done) | (simp; omega)) _))) (fail)
    all_goals exact ⟨_, _, rfl, (by repeat' (first | exact Below.refl _ _ | refine Below.drew ?_ | refine Below.alloc ?_ (by first | (simp; done) | (simp; omega)) _ | refine Below.setCell ?_ (by first | (simp; done) | (simp; omega)) _))⟩
  · rintro (_ | _ | _ | _ | _ | _) a' w2 hq
    case normal =>
      obtain ⟨p7, p8, rfl, B2⟩ := hq
      have c1 := cell_bel B2 c1
      have c2 := cell_bel B2 c2
      have c3 := cell_bel B2 c3
      have h2 := h1.below B2
      have hM := h2.nt
      have hmn : σ.nn < 9223372036854775807 := by omega
      have hz2 := B2.size
      have b1 : Boxed w2 w.heap.size 31 (.pointer (some ⟨σ.B, 0, none⟩)) := (B2.block _ b1.lt).trans b1
      have b2 : Boxed w2 (w.heap.size + 1) 2 (.int .i64 (v : Int)) := (B2.block _ b2.lt).trans b2
      go_upto_region 6 with fail
      go_still_tail 6, (by kernel_rfl)
      change wpList _ _ _ _ _ w2.drew
      with_reducible refine wpList_store_V rfl (.tmp 32) (.tmp 33) (.tmp 34) 94 2 9 rfl ntKeyed Tryz.underlying94 σ.N σ.nn (encN s.st.notes) (by kernel_rfl) hM.drew hmn (.int .i64 (v : Int)) (txV t) _ (by kernel_rfl) (by kernel_rfl) hkl ?_
      intro w4 hM3 gr3
      have e4 : setM (encN s.st.notes) (.int .i64 (v : Int)) (some (txV t)) = encN (upd s.st.notes v (some t)) := encN_set s.st.notes v (some t)
      rw [e4] at hM3
      have N4 : NextS w2 base σ { s with st := { s.st with notes := upd s.st.notes v (some t) }, many := s.many + 1 } w4 :=
        ((h2.below ((Below.refl _ w2).drew)).notes (f := upd s.st.notes v (some t)) (many := s.many + 1) (by split <;> omega) hM3 gr3).after (Below.refl _ w2).drew
      have n1 : ∀ k, σ.all k → k < w.heap.size := fun k hk => h.all_lt hk
      have b14 : Boxed w4 w.heap.size 31 (.pointer (some ⟨σ.B, 0, none⟩)) := by
        obtain ⟨_, _, _, _, k4, _⟩ := N4
        exact boxed_kept b1 k4 fun q => Nat.lt_irrefl _ (n1 _ q)
      have b24 : Boxed w4 (w.heap.size + 1) 2 (.int .i64 (v : Int)) := by
        obtain ⟨_, _, _, _, k4, _⟩ := N4
        exact boxed_kept b2 k4 fun q => by have := n1 _ q; omega
      obtain ⟨σ4, h4, e1, e2, k4, fr4⟩ := N4
      have hG2 := hG.bel (B1.trans (B2.mono B1.size)) h.base_le
      have hG4 : Glob w4 base := hG2.below (k4.below (fun k _ hk => h.lo k hk) h2.base_le)
      have hnf : ¬ σ4.all w.heap.size ∧ ¬ σ4.all (w.heap.size + 1) := ⟨fun q => (fr4 _ q).elim (fun q => Nat.lt_irrefl _ (n1 _ q)) (fun q => by omega), fun q => (fr4 _ q).elim (fun q => by have := n1 _ q; omega) (fun q => by omega)⟩
      clear hM3 gr3 e4 hM c1 c2 c3 S5 RC h2 b1 b2 h1
      have hs : ∀ x ∈ [(v : Int)], small40 x := by
        intro x hx
        rw [List.mem_singleton.1 hx]
        exact ⟨by omega, by omega⟩
      have hlen := nums_len [(v : Int)] (by simp; omega)
      obtain ⟨ld, hld⟩ : ∃ ld, ld = numsT [(v : Int)] := ⟨_, rfl⟩
      have hldl : ld.length ≤ 14 := by rw [hld]; simpa using hlen
      have hW4 : Below w4.heap.size w4 (w4.alloc (.cells #[.int .i64 (v : Int)] 2)).drew := ((Below.refl _ w4).alloc (Nat.le_refl _) _).drew
      have WC := words_calls [(v : Int)] (some ⟨w4.heap.size, 0, none⟩) 1 (w4.alloc (.cells #[.int .i64 (v : Int)] 2)).drew base (hG4.bel hW4 h4.base_le) (Nat.le_trans h4.base_le hW4.size) (RV.new w4 [.int .i64 (v : Int)] 2 (0, 0)) (by simp) hs
      rw [← hld] at WC
      have sz1 : ¬ 9223372036854775807 < (bstr ld).size + 1 := by rw [bstr_size]; omega
      have sz2 : ¬ 9223372036854775807 < (bstr ld).size + 1 + (bstr t).size := by rw [bstr_size, bstr_size]; omega
      have eS : bstr ld ++ (⟨#[32]⟩ : ByteArray) ++ bstr t = bstr (ld ++ 32 :: t) := by rw [bstr_lit, bstr_add, bstr_add]; simp
      have hrec : (StoreP.Act.note v t).toRec = ⟨78, ld ++ 32 :: t⟩ := by rw [hld]; rfl
      have RC : ∀ (w5 : World) (S : ByteArray) (k : Int), k = 78 → S = bstr (ld ++ 32 :: t) → Calls Tryz.prog 58 #[.int .u8 k, .string S] w5 (RetRec w5 78 (ld ++ 32 :: t)) := fun w5 S k hk hS => by
        subst hk hS
        exact record_calls 78 (ld ++ 32 :: t) w5 (by simp; omega)
      have LC : ∀ (fv : Value) (w5 w6 : World) (A : Option Addr) (c : Nat), Below w4.heap.size w4 w5 → Below w5.heap.size w5 w6 → RecOK w6 (fun k => k < w5.heap.size) ⟨78, A, c, ld ++ 32 :: t⟩ →
          Calls Tryz.prog 57 #[.pointer (some ⟨σ.B, 0, none⟩), .agg #[.int .u8 78, .slice A (ld.length + (t.length + 1)) c], fv] w6 (RetLog w6 base σ4 { s with st := { s.st with notes := upd s.st.notes v (some t) }, many := s.many + 1 } ⟨78, ld ++ 32 :: t⟩) := fun fv w5 w6 A c B5 B6 hx => by
        have B7 : Below w4.heap.size w4 w6 := B5.trans (B6.mono B5.size)
        have := logged_calls σ4 _ ⟨78, A, c, ld ++ 32 :: t⟩ fv w6 base (h4.below B7) (hG4.bel B7 h4.base_le) (hx.mono fun k _ hk => by have := h4.all_lt hk; have := B5.size; show k < w5.heap.size; omega) (by have := hE; rw [hrec] at this; exact this) (by show s.d.wait.length ≤ 60000; omega)
        rw [e1] at this
        have el : (ld ++ 32 :: t).length = ld.length + (t.length + 1) := by simp
        rw [← el]
        exact this
      have S7 : ∀ W', Below w4.heap.size w4 W' → (W'.cell? ⟨w.heap.size, 0, none⟩ = some (.pointer (some ⟨σ.B, 0, none⟩)) ∧ W'.cell? ⟨w.heap.size + 1, 0, none⟩ = some (.int .i64 (v : Int))) := fun W' b => ⟨cell_bel b b14.cell, cell_bel b b24.cell⟩
      have f4 := S7 w4 (Below.refl _ _)
      have f4d := S7 w4.drew (Below.refl _ _).drew
      have fa := S7 (w4.alloc (.cells #[.int .i64 (v : Int)] 2)) ((Below.refl _ w4).alloc (Nat.le_refl _) _)
      have fad := S7 (w4.alloc (.cells #[.int .i64 (v : Int)] 2)).drew hW4
      have fda := S7 (w4.drew.alloc (.cells #[.int .i64 (v : Int)] 2)) ((Below.refl _ w4).drew.alloc (Nat.le_refl _) _)
      have E1 := Lib.hid e1
      have HR := Lib.hid hrec
      clear e1 hld hrec hlen hs s1
      have eS := Lib.hid eS
      go_frame
      go_upto_region 7 with fail
      go_region_held (fun wq => wq.cell? ⟨w.heap.size, 0, none⟩ = some (.pointer (some ⟨σ.B, 0, none⟩)) ∧ wq.cell? ⟨w.heap.size + 1, 0, none⟩ = some (.int .i64 (v : Int))) (first | (with_reducible exact f4) | (with_reducible exact f4d) | (with_reducible exact fa) | (with_reducible exact fad) | (with_reducible exact fda) | (with_reducible exact f5) | (with_reducible exact f6) | (with_reducible exact c7)) (first
        | (go_at_call 59; refine WC.mono ?_; rintro e w5 ⟨rfl, B5⟩; replace B5 : Below w4.heap.size w4 w5 := hW4.trans (B5.mono hW4.size); have f5 := S7 _ B5)
        | (go_at_call 58; refine (RC w5 _ _ rfl (by rfl)).mono ?_; rintro e w6 ⟨⟨rk, rA, rc, rb⟩, hk, hbd, rfl, hr, B65⟩; obtain rfl : rk = 78 := hk; obtain rfl : rb = ld ++ 32 :: t := hbd; have LC5 := fun fv => LC fv w5 w6 rA rc B5 B65 hr; have B6 : Below w4.heap.size w4 w6 := B5.trans (B65.mono B5.size); have f6 := S7 _ B6)
        | (go_at_call 57; refine (LC5 _).mono ?_; rintro e w7 ⟨rfl, N7⟩; have c7 : w7.cell? ⟨w.heap.size, 0, none⟩ = some (.pointer (some ⟨σ.B, 0, none⟩)) ∧ w7.cell? ⟨w.heap.size + 1, 0, none⟩ = some (.int .i64 (v : Int)) := ⟨(boxed_kept ((B6.block _ b14.lt).trans b14) (by obtain ⟨_, _, _, _, k, _⟩ := N7; exact k) hnf.1).cell, (boxed_kept ((B6.block _ b24.lt).trans b24) (by obtain ⟨_, _, _, _, k, _⟩ := N7; exact k) hnf.2).cell⟩))
      all_goals
        obtain ⟨σ6, h6, g1, g2, k6, f6⟩ := N7
        have hwl := h6.wl
        have cj : w7.cell? ⟨σ6.B, 2, none⟩ = some (.pointer (some ⟨σ6.j.G, 0, none⟩)) := h6.bx.at_ (i := 2) rfl
        rw [g1.trans E1.out] at cj
        have JS := jsync_calls σ6.j _ w7 base h6.lg (by rw [hwl, ← HR.out]; show (addDS 128 s.p s.d (StoreP.Act.note v t).toRec).wait.length ≤ 65536; omega)
        rw [h6.dk] at JS
        have G1 := Lib.hid (g1.trans E1.out)
        clear g1 RC LC LC5 WC
        go_wp2_with (go_at_call 61; refine JS.mono ?_; rintro e w8 ⟨rfl, N8⟩; replace N8 := Lib.hid (h6.log N8))
        go_ret
        rw [HR.out]
        refine ⟨rfl, NextS.after B1 (NextS.after B2 (NextS.from_ E1.out e2 k4 fr4 (NextS.after B6 (NextS.from_ (G1.out.trans E1.out.symm) g2 k6 f6 N8.out))))⟩
    all_goals exact hq.elim
end Go.Proofs.YtendnkklbeiegaaGreatDoor
