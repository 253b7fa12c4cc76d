/-
  The document's reader in memory; walks of its methods: a word.
-/
import Derived.Test.YtiokbebodblhaaaGreatDoorTPlain
import Derived.Test.YtiokbebodblhaaaGreatDoorTPl
import Derived.Test.YtiokbebodblhaaaGreatDoorTraceDt
namespace Go.Proofs.YtiokbebodblhaaaGreatDoor
open Go.RowKit TraceP

/-- The document's reader: L words, of which some are read; whether something wasn't one. Its words lie in none of F's blocks. -/
structure DdOK (L : Nat) (w0 w : World) (g : Nat) (F : Nat → Prop) (s : RdS) : Prop where
  ex : ∃ (x : Option Addr × List Txt × Nat) (c : Nat), Blk w g 97 #[.slice x.1 L c, .int .i64 (x.2.2 : Int), .bool s.2] ∧ (x.2.1.length = L ∧ x.2.2 ≤ L ∧ s.1 = x.2.1.drop x.2.2 ∧ L ≤ c) ∧ c ≤ 9223372036854775807 ∧ RVF w F x.1 (fl txC x.2.1)
  sh : ∀ x ∈ s.1, x.length ≤ 65536
  lo : w0.heap.size ≤ g
  hF : F g
  below : Below w0.heap.size w0 w
  few : L ≤ 100000
structure DReads (L : Nat) (w0 : World) (g : Nat) (F : Nat → Prop) (s' : RdS) (w w' : World) : Prop where
  ok : DdOK L w0 w' g F s'
  kept : Kept (· = g) w w'
section
variable {L : Nat}
theorem DReads.trans {w0 : World} {g : Nat} {F : Nat → Prop} {s s' : RdS} {a b c : World} (h : DReads L w0 g F s a b) (k : DReads L w0 g F s' b c) : DReads L w0 g F s' a c := ⟨k.ok, h.kept.trans k.kept⟩
theorem DdOK.head {w0 w : World} {g : Nat} {F : Nat → Prop} {s : RdS} (H : DdOK L w0 w g F s) : (pWord s).1.length ≤ 65536 := by
  obtain ⟨ws, b⟩ := s
  cases ws with
  | nil => exact Nat.zero_le _
  | cons t r => exact H.sh t (List.mem_cons_self ..)
theorem DdOK.bad_ {w0 w : World} {g : Nat} {F : Nat → Prop} {s : RdS} (H : DdOK L w0 w g F s) : ∃ A c n, Blk w g 97 #[.slice A L c, .int .i64 n, .bool s.2] := by
  obtain ⟨x, c, bk, _⟩ := H.ex
  exact ⟨_, _, _, bk⟩
theorem DdOK.setB {w0 w : World} {g : Nat} {F : Nat → Prop} {s : RdS} (H : DdOK L w0 w g F s) (b : Bool) : DReads L w0 g F (s.1, b) w (w.setCell ⟨g, 2, none⟩ (.bool b)) := by
  obtain ⟨⟨A, c, bk, hc, hc2, rv⟩, sh, lo, gF, bw, few⟩ := H
  have K := (Kept.refl (fun k => k = g) w).setCell (p := ⟨g, 2, none⟩) (.inl rfl) (.bool b)
  exact ⟨⟨⟨A, c, bk.set_ 2 (.bool b), hc, hc2, rv.kept (K.mono (fun k _ hk => hk ▸ gF))⟩, sh, lo, gF, kept_below lo bw K, few⟩, K⟩
theorem DdOK.set_ {w0 w : World} {g : Nat} {F : Nat → Prop} {s : RdS} (H : DdOK L w0 w g F s) : DReads L w0 g F (s.1, true) w (w.setCell ⟨g, 2, none⟩ (.bool true)) := H.setB true
theorem DdOK.kept {w0 w w' : World} {g : Nat} {F : Nat → Prop} {s : RdS} (H : DdOK L w0 w g F s) (b : Below w.heap.size w w') : DdOK L w0 w' g F s := by
  obtain ⟨⟨A, c, bk, hc, hc2, rv⟩, sh, lo, gF, bw, few⟩ := H
  exact ⟨⟨A, c, bk.below b bk.lt, hc, hc2, rv.kept (Kept.of_below b _)⟩, sh, lo, gF, bw.trans (b.mono bw.size), few⟩
theorem DReads.call {w0 : World} {g : Nat} {F : Nat → Prop} {s : RdS} {a b c : World} (h : DReads L w0 g F s a b) (k : Below b.heap.size b c) : DReads L w0 g F s a c := ⟨h.ok.kept k, h.kept.trans (Kept.of_below k _)⟩
theorem DReads.setB {w0 : World} {g : Nat} {F : Nat → Prop} {s : RdS} {a b : World} (h : DReads L w0 g F s a b) (x : Bool) : DReads L w0 g F (s.1, x) a (b.setCell ⟨g, 2, none⟩ (.bool x)) := h.trans (h.ok.setB x)
theorem DReads.set_ {w0 : World} {g : Nat} {F : Nat → Prop} {s : RdS} {a b : World} (h : DReads L w0 g F s a b) : DReads L w0 g F (s.1, true) a (b.setCell ⟨g, 2, none⟩ (.bool true)) := h.setB true
theorem DdOK.more {w0 w : World} {g : Nat} {F : Nat → Prop} {s : RdS} (H : DdOK L w0 w g F s) {w' : World} (b : Below w.heap.size w w') : DdOK L w0 w' g (fun k => F k ∨ w.heap.size ≤ k) s := by
  obtain ⟨⟨A, c, bk, hc, hc2, rv⟩, sh, lo, gF, bw, few⟩ := H
  exact ⟨⟨A, c, bk.below b bk.lt, hc, hc2, (rv.mono (G := fun k => F k ∨ w.heap.size ≤ k) (fun k hk h => h.elim id (fun h => by omega))).kept (Kept.of_below b _)⟩, sh, lo, .inl gF, bw.trans (b.mono bw.size), few⟩
theorem DdOK.less {w0 w : World} {g n : Nat} {F : Nat → Prop} {s : RdS} (H : DdOK L w0 w g (fun k => F k ∨ n ≤ k) s) (hF : F g) : DdOK L w0 w g F s := by
  obtain ⟨⟨A, c, bk, hc, hc2, rv⟩, sh, lo, gF, bw, few⟩ := H
  exact ⟨⟨A, c, bk, hc, hc2, rv.mono (fun k _ h => .inl h)⟩, sh, lo, hF, bw, few⟩
theorem DdOK.far {w0 w : World} {g : Nat} {F : Nat → Prop} {s : RdS} (H : DdOK L w0 w g F s) {p : Addr} (hp : p.block ≠ g) (hF : F p.block) (h0 : w0.heap.size ≤ p.block) (u : Value) : DdOK L w0 (w.setCell p u) g F s := by
  obtain ⟨⟨A, c, bk, hc, hc2, rv⟩, sh, lo, gF, bw, few⟩ := H
  exact ⟨⟨A, c, bk.far (fun e => hp e.symm) u, hc, hc2, rv.kept ((Kept.refl F w).setCell (.inl hF) u)⟩, sh, lo, gF, bw.setCell h0 u, few⟩
theorem DdOK.mono {w0 w : World} {g : Nat} {F G : Nat → Prop} {s : RdS} (H : DdOK L w0 w g F s) (h : ∀ k, G k → F k) (hg : G g) : DdOK L w0 w g G s := by
  obtain ⟨⟨A, c, bk, hc, hc2, rv⟩, sh, lo, gF, bw, few⟩ := H
  exact ⟨⟨A, c, bk, hc, hc2, rv.mono (fun k _ hk => h k hk)⟩, sh, lo, hg, bw, few⟩
theorem DdOK.len {w0 w : World} {g : Nat} {F : Nat → Prop} {s : RdS} (H : DdOK L w0 w g F s) : s.1.length ≤ L := by
  obtain ⟨⟨A, c, bk, ⟨h1, h2, h3, h4⟩, hc2, rv⟩, sh, lo, gF, bw, few⟩ := H
  rw [h3, List.length_drop]
  omega
theorem DdOK.shs {w0 w : World} {g : Nat} {F : Nat → Prop} {s : RdS} (H : DdOK L w0 w g F s) : Sh s := ⟨H.sh, Nat.le_trans H.len H.few⟩
theorem DdOK.lt {w0 w : World} {g : Nat} {F : Nat → Prop} {s : RdS} (H : DdOK L w0 w g F s) : g < w.heap.size := by
  obtain ⟨_, _, _, b⟩ := H.bad_
  exact b.lt
/-- All that turns lies in blocks that the reader's words don't lie in. -/
theorem DdOK.keptF {w0 w w' : World} {g : Nat} {F G : Nat → Prop} {s : RdS} (H : DdOK L w0 w g F s) (K : Kept G w w') (hG : ∀ k, G k → F k ∧ k ≠ g ∧ w0.heap.size ≤ k) : DdOK L w0 w' g F s := by
  have hlt := H.lt
  obtain ⟨⟨A, c, bk, hc, hc2, rv⟩, sh, lo, gF, bw, few⟩ := H
  exact ⟨⟨A, c, (K.block g hlt (fun h => (hG g h).2.1 rfl)).trans bk, hc, hc2, rv.kept (K.mono fun k _ hk => (hG k hk).1)⟩, sh, lo, gF, bw.trans (K.below (fun k _ hk => (hG k hk).2.2) bw.size), few⟩
end
set_option maxHeartbeats 1600000 in
theorem dw_calls (L : Nat) (w0 w : World) (g : Nat) (F : Nat → Prop) (s : RdS) (H : DdOK L w0 w g F s) :
    Calls Tryz.prog 46 #[.pointer (some ⟨g, 0, none⟩)] w fun e w' => e = .returned (.string (bstr (pWord s).1)) ∧ DReads L w0 g F (pWord s).2 w w' := by
  have H' := H
  obtain ⟨⟨⟨A, W, a⟩, c, bk, ⟨hW, ha, hs, hcap⟩, hc2, rv⟩, sh, lo, gF, bw, few⟩ := H
  dsimp only at bk hW ha hs rv
  obtain ⟨ws, bad⟩ := s
  dsimp only at hs
  have c0 := bk.at_ (i := 0) (v := .slice A L c) rfl
  have c1 := bk.at_ (i := 1) (v := .int .i64 (a : Int)) rfl
  have c2 := bk.at_ (i := 2) (v := .bool bad) rfl
  have f1 := bk.frozen 1
  have f2 := bk.frozen 2
  cases ws with
  | nil =>
    have haL : a = L := by
      have := congrArg List.length hs
      rw [List.length_nil, List.length_drop] at this
      omega
    subst haL
    have d0 : decide ((a : Int) ≤ (a : Int)) = true := decide_eq_true (Int.le_refl _)
    have d0' : decide (a ≤ a) = true := decide_eq_true (Nat.le_refl _)
    clear H'
    have H : DdOK a w0 w g F ([], bad) := ⟨⟨(A, W, a), c, bk, ⟨hW, ha, hs, hcap⟩, hc2, rv⟩, sh, lo, gF, bw, few⟩
    clear hs
    go_enter Tryz.func46, Tryz.ntmps46
    go_upto_region 1 with (fail)
    go_region
    go_wp2
    go_ret
    have R := H.set_.call ((Below.refl (w.setCell ⟨g, 2, none⟩ (.bool true)).heap.size _).drew)
    exact ⟨rfl, R⟩
  | cons t r =>
    have hlt : a < L := by
      have := congrArg List.length hs
      rw [List.length_cons, List.length_drop] at this
      omega
    have hWa : W[a]? = some t := by
      have := congrArg (fun l => l[0]?) hs
      simp only [List.getElem?_cons_zero, List.getElem?_drop, Nat.add_zero] at this
      exact this.symm
    have hr : r = W.drop (a + 1) := by
      have := congrArg List.tail hs
      rw [List.tail_cons, List.tail_drop] at this
      exact this
    obtain ⟨b, off, rfl, hb, hn, hv⟩ := rv (by
      intro e
      have := congrArg List.length e
      rw [fl_len txC_len, List.length_nil] at this
      omega)
    have v0 : w.cell? ⟨b, off + a, none⟩ = some (.string (bstr t)) := hv a (.string (bstr t)) (by
      have := fl_get txC_len W a 0 (by omega)
      rw [Nat.mul_one, Nat.add_zero] at this
      rw [this, hWa]
      rfl)
    have d0 : decide ((L : Int) ≤ (a : Int)) = false := decide_eq_false (by omega)
    have d0' : decide (L ≤ a) = false := decide_eq_false (by omega)
    have wk : wrap64 ((a : Int) + 1) = (a : Int) + 1 := by unfold wrap64; omega
    clear hs H'
    replace hr := Lib.hid hr
    have hbg : b ≠ g := fun e => hn (e ▸ gF)
    go_enter Tryz.func46, Tryz.ntmps46
    go_upto_region 1 with (fail)
    go_region
    go_upto_region 5 with (fail)
    go_region
    go_wp2
    go_ret
    have b1 := bk.set_ 1 (.int .i64 ((a + 1 : Nat) : Int))
    have K := (Kept.refl (fun k => k = g) w).setCell (p := ⟨g, 1, none⟩) (.inl rfl) (.int .i64 ((a + 1 : Nat) : Int))
    have R : DReads L w0 g F (r, bad) w (w.setCell ⟨g, 1, none⟩ (.int .i64 ((a + 1 : Nat) : Int))) :=
      ⟨⟨⟨(some ⟨b, off, none⟩, W, a + 1), c, b1, ⟨hW, hlt, hr.out, hcap⟩, hc2, rv.kept (K.mono (fun k _ hk => hk ▸ gF))⟩, fun x hx => sh x (List.mem_cons_of_mem _ hx), lo, gF, kept_below lo bw K, few⟩, K⟩
    exact ⟨rfl, (R.call ((Below.refl (w.setCell ⟨g, 1, none⟩ (.int .i64 ((a + 1 : Nat) : Int))).heap.size _).drew)).call (Below.refl _ _).drew⟩
end Go.Proofs.YtiokbebodblhaaaGreatDoor
