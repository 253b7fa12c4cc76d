/-
  Walk: a slice is dropped.
-/
import Derived.Test.YtendnkklbeiegaaGreatDoorMAP
import Derived.Test.YtendnkklbeiegaaGreatDoorExtGive
namespace Go.Proofs.YtendnkklbeiegaaGreatDoor
open Go.RowKit Go.Maps StoreP JourP DiskP PageP

theorem blk_kept {F : Nat → Prop} {w w' : World} {B : Nat} {t : TypeId} {cs : Array Value} (h : Blk w B t cs) (k : Kept F w w') (hF : ¬ F B) : Blk w' B t cs := (k.block B h.lt hF).trans h
set_option maxRecDepth 100000 in
set_option maxHeartbeats 1600000 in
theorem drop_none (σ : StoL) (s : SP) (n : Nm) (hn : okN n) (hx : s.st.sl n = none) (w : World) (base : Nat) (h : StoOK w base σ s) :
    Calls Tryz.prog 26 #[.pointer (some ⟨σ.B, 0, none⟩), nmV n] w fun e w' => e = .returned (.int .i64 6) ∧ Below w.heap.size w w' := by
  have B1 : Below w.heap.size w ((w.alloc (.cells #[.pointer (some ⟨σ.B, 0, none⟩)] 31)).alloc (.cells #[.int .i64 (n.1 : Int), .int .i64 (n.2 : Int)] 40)) := ((Below.refl _ _).alloc (Nat.le_refl _) _).alloc (by simp) _
  have b1 : Boxed ((w.alloc (.cells #[.pointer (some ⟨σ.B, 0, none⟩)] 31)).alloc (.cells #[.int .i64 (n.1 : Int), .int .i64 (n.2 : Int)] 40)) w.heap.size 31 (.pointer (some ⟨σ.B, 0, none⟩)) := (Boxed.new w _ _).alloc _
  have b2 := Blk.new (w.alloc (.cells #[.pointer (some ⟨σ.B, 0, none⟩)] 31)) 40 #[.int .i64 (n.1 : Int), .int .i64 (n.2 : Int)]
  have s1 : ((w.alloc (.cells #[.pointer (some ⟨σ.B, 0, none⟩)] 31)).alloc (.cells #[.int .i64 (n.1 : Int), .int .i64 (n.2 : Int)] 40)).heap.size = w.heap.size + 2 := by simp
  rw [World.size_alloc] at b2
  unfold nmV
  go_enter Tryz.func26, Tryz.ntmps26
  go_wp2_with fail
  revert B1 b1 b2 s1
  generalize ((w.alloc (.cells #[.pointer (some ⟨σ.B, 0, none⟩)] 31)).alloc (.cells #[.int .i64 (n.1 : Int), .int .i64 (n.2 : Int)] 40)) = w1
  intro B1 b1 b2 s1
  have h1 := h.below B1
  have hl := fun W' (b : Below w1.heap.size w1 W') => sl_run (h1.below b) hn
  simp only [hx, Option.map_none, Option.getD_none, Option.isSome_none] at hl
  have HS : Hid (∀ W', Below w1.heap.size w1 W' → (W'.cell? ⟨w.heap.size, 0, none⟩ = some (.pointer (some ⟨σ.B, 0, none⟩)) ∧ W'.cell? ⟨σ.B, 5, none⟩ = some (.map (some σ.M)) ∧ W'.cell? ⟨w.heap.size + 1, 0, none⟩ = some (.int .i64 (n.1 : Int)) ∧ W'.cell? ⟨w.heap.size + 1, 1, none⟩ = some (.int .i64 (n.2 : Int)) ∧ (Instr.lookup 95 (.map (some σ.M)) (.agg #[.int .i64 (n.1 : Int), .int .i64 (n.2 : Int)]) true).run Tryz.prog W' = .ok (.tuple #[.agg #[.int .i64 0, .int .i64 0, .int .i64 0, .int .i64 0], .bool false]) W')) := fun W' b => ⟨cell_bel b b1.cell, cell_bel b (h1.bx.at_ (i := 5) rfl), cell_bel b (b2.at_ (i := 0) rfl), cell_bel b (b2.at_ (i := 1) rfl), hl W' b⟩
  clear hl h h1 hx b2
  go_region_held (fun wq => wq.cell? ⟨w.heap.size, 0, none⟩ = some (.pointer (some ⟨σ.B, 0, none⟩)) ∧ wq.cell? ⟨σ.B, 5, none⟩ = some (.map (some σ.M)) ∧ wq.cell? ⟨w.heap.size + 1, 0, none⟩ = some (.int .i64 (n.1 : Int)) ∧ wq.cell? ⟨w.heap.size + 1, 1, none⟩ = some (.int .i64 (n.2 : Int)) ∧ (Instr.lookup 95 (.map (some σ.M)) (.agg #[.int .i64 (n.1 : Int), .int .i64 (n.2 : Int)]) true).run Tryz.prog wq = .ok (.tuple #[.agg #[.int .i64 0, .int .i64 0, .int .i64 0, .int .i64 0], .bool false]) wq)
    (exact HS.out _ (by repeat' (first | exact Below.refl _ _ | refine Below.drew ?_ | refine Below.alloc ?_ (by first | (simp; done) | (simp; omega)) _ | refine Below.setCell ?_ (by first | (simp; done) | (simp; omega)) _))) (fail)
  all_goals
    go_wp2_with fail
    go_ret
    exact ⟨rfl, B1.trans ((((Below.refl _ w1).alloc (Nat.le_refl _) _).drew).mono B1.size)⟩
set_option maxRecDepth 100000 in
set_option maxHeartbeats 1600000 in
theorem drop_some (σ : StoL) (s : SP) (n : Nm) (x : Slot) (hn : okN n) (hx : s.st.sl n = some x) (w : World) (base : Nat) (h : StoOK w base σ s) (hG : Glob w base) (hE : addE 128 s.p (StoreP.Act.drop n).toRec = 0) (hw : s.d.wait.length ≤ 50000) (_hm : s.many ≤ 999) (h1x : 128 ≤ x.at_) (h2x : x.at_ < 512) (hfr : ¬ s.fr x.at_) (hfe : ∃ i, s.fr i) :
    Calls Tryz.prog 26 #[.pointer (some ⟨σ.B, 0, none⟩), nmV n] w
      (RetSto w base σ { s with st := s.st.heed (.drop n), many := s.many + 1, p := s.p.addS 128 (StoreP.Act.drop n).toRec, d := addDS 128 s.p s.d (StoreP.Act.drop n).toRec, fr := fun i => s.fr i ∨ i = x.at_ }) := by
  have hcn := h.cnt
  have B1 : Below w.heap.size w ((w.alloc (.cells #[.pointer (some ⟨σ.B, 0, none⟩)] 31)).alloc (.cells #[.int .i64 (n.1 : Int), .int .i64 (n.2 : Int)] 40)) := ((Below.refl _ _).alloc (Nat.le_refl _) _).alloc (by simp) _
  have b1 : Boxed ((w.alloc (.cells #[.pointer (some ⟨σ.B, 0, none⟩)] 31)).alloc (.cells #[.int .i64 (n.1 : Int), .int .i64 (n.2 : Int)] 40)) w.heap.size 31 (.pointer (some ⟨σ.B, 0, none⟩)) := (Boxed.new w _ _).alloc _
  have b2 := Blk.new (w.alloc (.cells #[.pointer (some ⟨σ.B, 0, none⟩)] 31)) 40 #[.int .i64 (n.1 : Int), .int .i64 (n.2 : Int)]
  have s1 : ((w.alloc (.cells #[.pointer (some ⟨σ.B, 0, none⟩)] 31)).alloc (.cells #[.int .i64 (n.1 : Int), .int .i64 (n.2 : Int)] 40)).heap.size = w.heap.size + 2 := by simp
  rw [World.size_alloc] at b2
  unfold nmV
  go_enter Tryz.func26, Tryz.ntmps26
  go_wp2_with fail
  revert B1 b1 b2 s1
  generalize ((w.alloc (.cells #[.pointer (some ⟨σ.B, 0, none⟩)] 31)).alloc (.cells #[.int .i64 (n.1 : Int), .int .i64 (n.2 : Int)] 40)) = w1
  intro B1 b1 b2 s1
  have h1 := h.below B1
  have hl := fun W' (b : Below w1.heap.size w1 W') => sl_run (h1.below b) hn
  simp only [hx, Option.map_some, Option.getD_some, Option.isSome_some, slotV] at hl
  have HS : Hid (∀ W', Below w1.heap.size w1 W' → (W'.cell? ⟨w.heap.size, 0, none⟩ = some (.pointer (some ⟨σ.B, 0, none⟩)) ∧ W'.cell? ⟨σ.B, 5, none⟩ = some (.map (some σ.M)) ∧ W'.cell? ⟨w.heap.size + 1, 0, none⟩ = some (.int .i64 (n.1 : Int)) ∧ W'.cell? ⟨w.heap.size + 1, 1, none⟩ = some (.int .i64 (n.2 : Int)) ∧ (Instr.lookup 95 (.map (some σ.M)) (.agg #[.int .i64 (n.1 : Int), .int .i64 (n.2 : Int)]) true).run Tryz.prog W' = .ok (.tuple #[.agg #[.int .i64 (x.at_ : Int), .int .i64 1, .int .i64 (x.len : Int), .int .i64 (x.mark : Int)], .bool true]) W')) := fun W' b => ⟨cell_bel b b1.cell, cell_bel b (h1.bx.at_ (i := 5) rfl), cell_bel b (b2.at_ (i := 0) rfl), cell_bel b (b2.at_ (i := 1) rfl), hl W' b⟩
  obtain ⟨kl, hkl⟩ := keyOf_nm n hn
  refine wp_mono (Q := fun e a' w' => match e with
    | .normal => a' = { tmps := #[.pointer (some ⟨σ.B, 0, none⟩), .agg #[.int .i64 (n.1 : Int), .int .i64 (n.2 : Int)], .pointer (some ⟨w.heap.size, 0, none⟩), .pointer (some ⟨w.heap.size + 1, 0, none⟩), .int .i64 0, .pointer (some ⟨w.heap.size + 2, 0, none⟩), .bool true, undef, .pointer (some ⟨σ.B, 0, none⟩), .bool false, .tuple #[.agg #[.int .i64 (x.at_ : Int), .int .i64 1, .int .i64 (x.len : Int), .int .i64 (x.mark : Int)], .bool true], .pointer (some ⟨σ.B, 0, none⟩), .pointer (some ⟨σ.B, 0, none⟩), .pointer (some ⟨σ.B, 5, none⟩), .map (some σ.M), .agg #[.int .i64 (n.1 : Int), .int .i64 (n.2 : Int)], .tuple #[.agg #[.int .i64 (x.at_ : Int), .int .i64 1, .int .i64 (x.len : Int), .int .i64 (x.mark : Int)], .bool true], .agg #[.int .i64 (x.at_ : Int), .int .i64 1, .int .i64 (x.len : Int), .int .i64 (x.mark : Int)], .bool true, undef, undef, undef, undef, undef, undef, undef, undef, undef, undef, undef, undef, undef, undef, undef, undef, undef, undef, undef, undef, undef, undef, undef, undef, undef, undef, undef], defers := [] } ∧ w' = (w1.alloc (.cells #[.int .i64 (x.at_ : Int), .int .i64 1, .int .i64 (x.len : Int), .int .i64 (x.mark : Int)] 112)).drew
    | _ => False) ?_ ?_
  · clear hl hx h h1
    go_region_held (fun wq => wq.cell? ⟨w.heap.size, 0, none⟩ = some (.pointer (some ⟨σ.B, 0, none⟩)) ∧ wq.cell? ⟨σ.B, 5, none⟩ = some (.map (some σ.M)) ∧ wq.cell? ⟨w.heap.size + 1, 0, none⟩ = some (.int .i64 (n.1 : Int)) ∧ wq.cell? ⟨w.heap.size + 1, 1, none⟩ = some (.int .i64 (n.2 : Int)) ∧ (Instr.lookup 95 (.map (some σ.M)) (.agg #[.int .i64 (n.1 : Int), .int .i64 (n.2 : Int)]) true).run Tryz.prog wq = .ok (.tuple #[.agg #[.int .i64 (x.at_ : Int), .int .i64 1, .int .i64 (x.len : Int), .int .i64 (x.mark : Int)], .bool true]) wq)
      (exact HS.out _ (by repeat' (first | exact Below.refl _ _ | refine Below.drew ?_ | refine Below.alloc ?_ (by first | (simp; done) | (simp; omega)) _ | refine Below.setCell ?_ (by first | (simp; done) | (simp; omega)) _))) (fail)
    all_goals exact ⟨rfl, rfl⟩
  · rintro (_ | _ | _ | _ | _ | _) a' w2 hq
    case normal =>
      obtain ⟨rfl, rfl⟩ := hq
      have B2 : Below w1.heap.size w1 (w1.alloc (.cells #[.int .i64 (x.at_ : Int), .int .i64 1, .int .i64 (x.len : Int), .int .i64 (x.mark : Int)] 112)).drew := ((Below.refl _ w1).alloc (Nat.le_refl _) _).drew
      have b3 : Blk (w1.alloc (.cells #[.int .i64 (x.at_ : Int), .int .i64 1, .int .i64 (x.len : Int), .int .i64 (x.mark : Int)] 112)).drew (w.heap.size + 2) 112 #[.int .i64 (x.at_ : Int), .int .i64 1, .int .i64 (x.len : Int), .int .i64 (x.mark : Int)] := by
        have := Blk.new w1 112 #[.int .i64 (x.at_ : Int), .int .i64 1, .int .i64 (x.len : Int), .int .i64 (x.mark : Int)]
        rw [s1] at this
        exact this
      revert B2 b3
      generalize (w1.alloc (.cells #[.int .i64 (x.at_ : Int), .int .i64 1, .int .i64 (x.len : Int), .int .i64 (x.mark : Int)] 112)).drew = w2
      intro B2 b3
      have h2 := h1.below B2
      have hM := h2.sl
      have b12 : Boxed w2 w.heap.size 31 (.pointer (some ⟨σ.B, 0, none⟩)) := (B2.block _ b1.lt).trans b1
      have b22 := b2.below B2 b2.lt
      have c0 := b12.cell
      have n0 : w2.cell? ⟨w.heap.size + 1, 0, none⟩ = some (.int .i64 (n.1 : Int)) := b22.at_ (i := 0) rfl
      have n1 : w2.cell? ⟨w.heap.size + 1, 1, none⟩ = some (.int .i64 (n.2 : Int)) := b22.at_ (i := 1) rfl
      have c5 := h2.bx.at_ (i := 5) (v := .map (some σ.M)) rfl
      have hz2 := B2.size
      clear HS hl b1 b2
      go_upto_region 6 with fail
      go_still_tail 5, (by kernel_rfl)
      change wpList _ _ _ _ _ w2.drew
      with_reducible refine wpList_delete_V rfl (.tmp 24) (.tmp 25) 95 40 112 rfl nmKeyed Tryz.underlying95 σ.M σ.mn (encS s.st.sl) (by kernel_rfl) hM.drew (nmV n) kl (by kernel_rfl) hkl ?_
      intro w4 hM3 gr3
      have e4 : setM (encS s.st.sl) (nmV n) none = encS (upd s.st.sl n none) := encS_set s.st.sl n none
      rw [e4] at hM3
      have N4 : NextS w2 base σ { s with st := { s.st with sl := upd s.st.sl n none }, many := s.many + 1 } w4 :=
        ((h2.below ((Below.refl _ w2).drew)).slices (f := upd s.st.sl n none) (many := s.many + 1) (by split <;> omega) hM3 gr3).after (Below.refl _ w2).drew
      have na : ∀ k, σ.all k → k < w.heap.size := fun k hk => h.all_lt hk
      have k24 : Kept σ.all w2 w4 := by obtain ⟨_, _, _, _, k4, _⟩ := N4; exact k4
      have b14 : Boxed w4 w.heap.size 31 (.pointer (some ⟨σ.B, 0, none⟩)) := boxed_kept b12 k24 fun q => Nat.lt_irrefl _ (na _ q)
      have b24 := blk_kept b22 k24 fun q => by have := na _ q; omega
      have b34 := blk_kept b3 k24 fun q => by have := na _ q; omega
      obtain ⟨σ4, h4, e1, e2, k4, fr4⟩ := N4
      have hG2 := hG.bel (B1.trans (B2.mono B1.size)) h.base_le
      have hG4 : Glob w4 base := hG2.below (k4.below (fun k _ hk => h.lo k hk) h2.base_le)
      have hnf : ¬ σ4.all w.heap.size ∧ ¬ σ4.all (w.heap.size + 1) ∧ ¬ σ4.all (w.heap.size + 2) := ⟨fun q => (fr4 _ q).elim (fun q => Nat.lt_irrefl _ (na _ q)) (fun q => by have := b3.lt; omega), fun q => (fr4 _ q).elim (fun q => by have := na _ q; omega) (fun q => by have := b3.lt; omega), fun q => (fr4 _ q).elim (fun q => by have := na _ q; omega) (fun q => by have := b3.lt; omega)⟩
      clear hM3 gr3 e4 hM c0 n0 n1 c5 h2 b12 b22 b3 h1
      have hs : ∀ x ∈ [(n.1 : Int), (n.2 : Int)], small40 x := by
        obtain ⟨q1, q2⟩ := hn
        intro x hx
        simp only [List.mem_cons, List.not_mem_nil, or_false] at hx
        unfold small40
        rcases hx with rfl | rfl <;> omega
      have hlen := nums_len [(n.1 : Int), (n.2 : Int)] (by obtain ⟨q1, q2⟩ := hn; simp; omega)
      obtain ⟨ld, hld⟩ : ∃ ld, ld = numsT [(n.1 : Int), (n.2 : Int)] := ⟨_, rfl⟩
      have hldl : ld.length ≤ 28 := by rw [hld]; simpa using hlen
      have hW4 : Below w4.heap.size w4 (w4.alloc (.cells #[.int .i64 (n.1 : Int), .int .i64 (n.2 : Int)] 2)).drew := ((Below.refl _ w4).alloc (Nat.le_refl _) _).drew
      have WC := words_calls [(n.1 : Int), (n.2 : Int)] (some ⟨w4.heap.size, 0, none⟩) 2 (w4.alloc (.cells #[.int .i64 (n.1 : Int), .int .i64 (n.2 : Int)] 2)).drew base (hG4.bel hW4 h4.base_le) (Nat.le_trans h4.base_le hW4.size) (RV.new w4 [.int .i64 (n.1 : Int), .int .i64 (n.2 : Int)] 2 (0, 0)) (by simp) hs
      rw [← hld] at WC
      have hrec : (StoreP.Act.drop n).toRec = ⟨68, ld⟩ := by rw [hld]; rfl
      have RC : ∀ (w5 : World), Calls Tryz.prog 58 #[.int .u8 68, .string (bstr ld)] w5 (RetRec w5 68 ld) := fun w5 => record_calls 68 ld w5 (by omega)
      have LC : ∀ (fv : Value) (w5 w6 : World) (A : Option Addr) (c : Nat), Below w4.heap.size w4 w5 → Below w5.heap.size w5 w6 → RecOK w6 (fun k => k < w5.heap.size) ⟨68, A, c, ld⟩ →
          Calls Tryz.prog 57 #[.pointer (some ⟨σ.B, 0, none⟩), .agg #[.int .u8 68, .slice A ld.length c], fv] w6 (RetLog w6 base σ4 { s with st := { s.st with sl := upd s.st.sl n none }, many := s.many + 1 } ⟨68, ld⟩) := fun fv w5 w6 A c B5 B6 hx => by
        have B7 : Below w4.heap.size w4 w6 := B5.trans (B6.mono B5.size)
        have := logged_calls σ4 _ ⟨68, A, c, ld⟩ fv w6 base (h4.below B7) (hG4.bel B7 h4.base_le) (hx.mono fun k _ hk => by have := h4.all_lt hk; have := B5.size; show k < w5.heap.size; omega) (by have := hE; rw [hrec] at this; exact this) (by show s.d.wait.length ≤ 60000; omega)
        rw [e1] at this
        exact this
      have S7 : ∀ W', Below w4.heap.size w4 W' → (W'.cell? ⟨w.heap.size, 0, none⟩ = some (.pointer (some ⟨σ.B, 0, none⟩)) ∧ W'.cell? ⟨w.heap.size + 1, 0, none⟩ = some (.int .i64 (n.1 : Int)) ∧ W'.cell? ⟨w.heap.size + 1, 1, none⟩ = some (.int .i64 (n.2 : Int))) := fun W' b => ⟨cell_bel b b14.cell, cell_bel b (b24.at_ (i := 0) rfl), cell_bel b (b24.at_ (i := 1) rfl)⟩
      have f4 := S7 w4 (Below.refl _ _)
      have f4d := S7 w4.drew (Below.refl _ _).drew
      have fa := S7 (w4.alloc (.cells #[.int .i64 (n.1 : Int), .int .i64 (n.2 : Int)] 2)) ((Below.refl _ w4).alloc (Nat.le_refl _) _)
      have fad := S7 (w4.alloc (.cells #[.int .i64 (n.1 : Int), .int .i64 (n.2 : Int)] 2)).drew hW4
      have fda := S7 (w4.drew.alloc (.cells #[.int .i64 (n.1 : Int), .int .i64 (n.2 : Int)] 2)) ((Below.refl _ w4).drew.alloc (Nat.le_refl _) _)
      have E1 := Lib.hid e1
      have HR := Lib.hid hrec
      have HX := Lib.hid hx
      clear e1 hld hrec hlen hs s1 hx
      go_frame
      go_upto_region 7 with fail
      go_region_held (fun wq => wq.cell? ⟨w.heap.size, 0, none⟩ = some (.pointer (some ⟨σ.B, 0, none⟩)) ∧ wq.cell? ⟨w.heap.size + 1, 0, none⟩ = some (.int .i64 (n.1 : Int)) ∧ wq.cell? ⟨w.heap.size + 1, 1, none⟩ = some (.int .i64 (n.2 : Int))) (first | (with_reducible exact f4) | (with_reducible exact f4d) | (with_reducible exact fa) | (with_reducible exact fad) | (with_reducible exact fda) | (with_reducible exact f5) | (with_reducible exact f6) | (with_reducible exact c7)) (first
        | (go_at_call 59; refine WC.mono ?_; rintro e w5 ⟨rfl, B5⟩; replace B5 : Below w4.heap.size w4 w5 := hW4.trans (B5.mono hW4.size); have f5 := S7 _ B5)
        | (go_at_call 58; refine (RC w5).mono ?_; rintro e w6 ⟨⟨rk, rA, rc, rb⟩, hk, hbd, rfl, hr, B65⟩; obtain rfl : rk = 68 := hk; obtain rfl : ld = rb := hbd.symm; have LC5 := fun fv => LC fv w5 w6 rA rc B5 B65 hr; have B6 : Below w4.heap.size w4 w6 := B5.trans (B65.mono B5.size); have f6 := S7 _ B6)
        | (go_at_call 57; refine (LC5 _).mono ?_; rintro e w7 ⟨rfl, N7⟩; have k7 : Kept σ4.all w6 w7 := (by obtain ⟨_, _, _, _, k, _⟩ := N7; exact k); have b17 := boxed_kept ((B6.block _ b14.lt).trans b14) k7 hnf.1; have b27 := blk_kept (b24.below B6 b24.lt) k7 hnf.2.1; have b37 := blk_kept (b34.below B6 b34.lt) k7 hnf.2.2; have c7 : w7.cell? ⟨w.heap.size, 0, none⟩ = some (.pointer (some ⟨σ.B, 0, none⟩)) ∧ w7.cell? ⟨w.heap.size + 1, 0, none⟩ = some (.int .i64 (n.1 : Int)) ∧ w7.cell? ⟨w.heap.size + 1, 1, none⟩ = some (.int .i64 (n.2 : Int)) := ⟨b17.cell, b27.at_ (i := 0) rfl, b27.at_ (i := 1) rfl⟩))
      all_goals
        obtain ⟨σ6, h6, g1, g2, k6, f6⟩ := N7
        have cx : w7.cell? ⟨σ6.B, 3, none⟩ = some (.pointer (some ⟨σ6.x.M, 0, none⟩)) := h6.bx.at_ (i := 3) rfl
        rw [g1.trans E1.out] at cx
        have GC := xGive_calls σ6.x x.at_ 128 512 s.fr w7.drew base ((h6.below (Below.refl _ w7).drew).fr) h1x h2x hfr hfe
        have x0 := b37.at_ (i := 0) rfl
        have x1 := b37.at_ (i := 1) rfl
        have c0 := c7.1
        have G1 := Lib.hid (g1.trans E1.out)
        clear g1 RC LC LC5 WC c7 f4 f4d fa fad fda S7
        go_upto_region 9 with fail
        go_still_tail 6, (by kernel_rfl)
        change wpList _ _ _ _ _ w7.drew
        go_wp2_with (go_at_call 67; refine GC.mono ?_; rintro e w8 ⟨rfl, N8⟩; replace N8 := Lib.hid (((h6.below (Below.refl _ w7).drew).free N8).after (Below.refl _ w7).drew))
        go_ret
        rw [HR.out]
        refine ⟨rfl, NextS.after B1 (NextS.after B2 (NextS.from_ E1.out e2 k4 fr4 (NextS.after B6 (NextS.from_ (G1.out.trans E1.out.symm) g2 k6 f6 N8.out))))⟩
    all_goals exact hq.elim
end Go.Proofs.YtendnkklbeiegaaGreatDoor
