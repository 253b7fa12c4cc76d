/-
  The walk of the statements' same.
-/
import Derived.Test.YtpojlchikaffhaaDoorJourHelpA
namespace Go.Proofs.YtpojlchikaffhaaDoor
open Go.RowKit DiskP SumP PageP JourP

/-- A row of the call's own, as it was where nothing that it held has turned. -/
theorem own_rows {w : World} {N n c : Nat} {F : Nat → Prop} {A : Option Addr} {xs : List RecR} (h : RowR w N F (.slice A n c) xs) (hn : xs.length = n) : RV w A (rC xs) := by
  have := h.own
  rw [hn] at this
  exact (own_rvfN (F := fun _ => False) this (fun _ hk => hk.elim)).rv
set_option maxHeartbeats 3200000 in
theorem same_calls (j : JL) (p : PJ) (x : XL) (n : Nat) (hn : p.rs.length = n) (w : World) (base : Nat) (h : JLog w base j p) (hX : XOK w (fun _ => False) x) (hx : x.rs.map RecR.abs = p.rs) :
    Calls Tryd.prog 15 #[.pointer (some ⟨j.G, 0, none⟩), x.val] w fun e w' => e = .returned (.bool true) ∧ Below w.heap.size w w' := by
  have hxn : x.rs.length = n := by rw [← hn, ← hx, List.length_map]
  have hnb : n ≤ 65536 := by obtain ⟨_, _, h3, h4, _, _, h7, _⟩ := h.sizes; omega
  obtain ⟨xA, xc, xr, xl, xh, xs, xe⟩ := x
  simp only at hx hxn
  have B1 : Below w.heap.size w (w.alloc (.cells #[.slice xA n xc, .int .i64 (xl : Int), .int .i64 xh, .int .i64 xs, .int .i64 xe] 31)) := (Below.refl _ _).alloc (Nat.le_refl _) _
  have hb := Blk.new w 31 #[.slice xA n xc, .int .i64 (xl : Int), .int .i64 xh, .int .i64 xs, .int .i64 xe]
  have AC := fun (w' : World) (b : Below w.heap.size w w') => jall_n j p n hn w' base (h.below b)
  have BK := fun (w' : World) (A : Option Addr) (c : Nat) (ys : List RecR) (hy : ys.length = n) (hR : RV w' A (rC ys)) => back_calls ys n hy A c w' hR (by omega)
  have GC := fun (w' : World) (b : Below w.heap.size w w') (A : Option Addr) (c : Nat) (ys : List RecR) (hy : ys.length = n) (hR : RV w' A (rC ys)) (hk : ∀ z ∈ ys, RecOK w' (fun _ => False) z) (ha : ys.map RecR.abs = p.rs) =>
    xbegins_calls ys xr n n hy hxn A xA c xc (n : Int) w' hR ((hX.below b).rd.rv) hk (hX.below b).ks (Nat.le_refl _) (Int.le_refl _) (by omega) (by rw [ha, hx]; rw [← hn, List.take_length])
  have HXN := Lib.hid hxn
  show Calls Tryd.prog 15 #[.pointer (some ⟨j.G, 0, none⟩), .agg #[.slice xA xr.length xc, .int .i64 (xl : Int), .int .i64 xh, .int .i64 xs, .int .i64 xe]] w _
  rw [hxn]
  clear hxn hx hX h hn
  go_enter Tryd.func15, Tryd.ntmps15
  go_wp2_with fail
  generalize w.alloc (.cells #[.slice xA n xc, .int .i64 (xl : Int), .int .i64 xh, .int .i64 xs, .int .i64 xe] 31) = w1 at *
  have HS : Hid (∀ wq, Below w1.heap.size w1 wq → wq.cell? ⟨w.heap.size, 0, none⟩ = some (.slice xA n xc)) := fun wq b => (hb.below b hb.lt).at_ rfl
  have bd : Below w1.heap.size w1 w1.drew := (Below.refl _ _).drew
  have f1 := HS.out _ bd
  have Bd := B1.trans (bd.mono B1.size)
  clear hb
  go_region_held (fun wq => wq.cell? ⟨w.heap.size, 0, none⟩ = some (.slice xA n xc)) (first | exact f1 | exact f2 | exact f3 | exact f4 | exact f5) (first
    | (have _q := b3; go_at_call 26; (with_reducible refine (BK w3 A3 c3 xs3 hl3 rv3).mono ?_); rintro _ w4 ⟨A4, c4, rfl, o4, b4z⟩; have b4 := b3.trans (b4z.mono b3.size); have f4 := HS.out _ b4; have B4 := B1.trans (b4.mono B1.size); have rv4 := (own_rvfN (F := fun _ => False) o4 (fun _ hk => hk.elim)).rv; have ok4 := fun z hz => (ok3 z hz).below b4z; clear b4z o4)
    | (have _q := b4; go_at_call 25; (with_reducible refine (GC w4 B4 A4 c4 xs3 hl3 rv4 ok4 ha3).mono ?_); rintro _ w5 ⟨rfl, b5z⟩; have b5 := b4.trans (b5z.mono b4.size); have f5 := HS.out _ b5; clear b5z)
    | (have _q := b2; go_at_call 14; (with_reducible refine (AC w2 B2).mono ?_); rintro _ w3 ⟨A3, c3, xs3, rfl, hl3z, ha3z, r3, b3z⟩; have b3 := b2.trans (b3z.mono b2.size); have f3 := HS.out _ b3; have hl3 := hl3z; have rv3 := own_rows r3 hl3z; have ok3 : ∀ z ∈ xs3, RecOK w3 (fun _ => False) z := fun z hz => (r3.ks z hz).mono fun _ _ hk => hk.elim; have ha3 := ha3z; clear b3z hl3z ha3z)
    | (go_at_call 14; (with_reducible refine (AC _ Bd).mono ?_); rintro _ w2 ⟨A2, c2, xs2, rfl, _, _, _, b2z⟩; have b2 : Below w1.heap.size w1 w2 := ⟨b2z.os, b2z.tape, b2z.output, b2z.size, b2z.block⟩; have f2 := HS.out _ b2; have B2 := B1.trans (b2.mono B1.size); clear b2z))
  have HF := Lib.hid (B1.trans (b5.mono B1.size))
  clear AC BK GC HS f1 f2 f3 f4 f5 b2 b3 b4 b5 B2 B4 rv3 rv4 ok3 ok4 ha3 hl3 r3 Bd bd
  go_wp2
  go_ret
  exact ⟨rfl, HF.out⟩
end Go.Proofs.YtpojlchikaffhaaDoor
