/-
  The walk of a log's Open, where it may lie there.
-/
import Derived.Test.YtpojlchikaffhaaDoorJourOpen
namespace Go.Proofs.YtpojlchikaffhaaDoor
open Go.RowKit DiskP SumP PageP JourP

set_option maxHeartbeats 3200000 in
set_option maxRecDepth 100000 in
theorem jopen_good (y : Lay) (f s : Nat) (g : Nat → Option Nat) (rs : List Rec) (lasts : Nat) (w : World) (base : Nat) (hd : DiskOK w base y) (hq : goodP (y.lp.length : Int) (y.size : Int) (f : Int) (s : Int)) (hO : OpenP y.abs f (s / 2) (findSt g 2).1 (findSt g 2).2.1 (findSt g 2).2.2 rs lasts)
    (hget : ∀ i, i < 2 → getR y.abs ((f + i * (s / 2) : Nat) : Int) = headR (g i)) (hsm : ∀ i m, g i = some m → m ≤ 1000000) (hT : Tab w) (hbase : base ≤ w.heap.size) (hg : 0 < base) :
    Calls Tryd.prog 17 #[.pointer (some ⟨y.D, 0, none⟩), .int .i64 (f : Int), .int .i64 (s : Int)] w (RetOpen w base y f (s / 2) (findSt g 2).1 (findSt g 2).2.1 (findSt g 2).2.2 rs lasts) := by
  have hl1 := hd.l1
  have hl2 := hd.l2
  obtain ⟨q1, q2, q3, q4, q5⟩ := hq
  have d1 : decide ((y.size : Int) < 19) = false := decide_eq_false (by omega)
  have d2 : decide ((f : Int) < 0) = false := decide_eq_false (by omega)
  have d3 : decide ((s : Int) < 4) = false := decide_eq_false (by omega)
  have d4 : decide ((y.lp.length : Int) < (s : Int)) = false := decide_eq_false (by omega)
  have d4' : decide (y.lp.length < s) = false := decide_eq_false (by omega)
  have d5 : decide ((y.lp.length : Int) - (s : Int) < (f : Int)) = false := decide_eq_false (by omega)
  obtain ⟨h, hh⟩ : ∃ h, s / 2 = h := ⟨_, rfl⟩
  rw [hh] at hO hget ⊢
  have s1 : (s : Int) / 2 = (h : Int) := by omega
  have hU := findSt_le g 2 (Nat.le_refl _)
  obtain ⟨st, hst⟩ : ∃ st, findSt g 2 = st := ⟨_, rfl⟩
  have SC := size_calls y w base hd
  have HST := Lib.hid hst
  have hFC := fun (j : JL) (w' : World) (hJ : JOK w' base j) (hP : FindP j f h g) (hL : (findSt g 2).2.2 = true → LoadP (j.ue (findSt g 2).1 (findSt g 2).2.1) f h (findSt g 2).1 (findSt g 2).2.1 rs lasts) hrs hT' hb' => jfind_calls j f h g rs lasts w' base hJ hP hL hrs hT' hb' hg
  rw [hst] at hO hU hFC ⊢
  obtain ⟨U, E, fd⟩ := st
  simp only at hO hU hFC ⊢
  clear hst
  have HS1 := Lib.hid s1
  have hf6 : f ≤ 65536 := by omega
  have hh6 : h ≤ 65536 := by omega
  clear hh
  go_enter Tryd.func17, Tryd.ntmps17
  go_wp2_with fail
  refine SC.mono ?_
  clear SC
  rintro _ w0 ⟨rfl, q, rfl⟩
  have b0 := drewN_below w q
  have hd0 := hd.below b0
  have T0 := hT.below b0
  have hz0 : (w.drewN q).heap.size = w.heap.size := rfl
  generalize hw0 : w.drewN q = w0 at *
  clear hw0
  obtain ⟨j0, hj0⟩ : ∃ j0 : JL, j0 = ⟨w.heap.size, y, (f : Int), (h : Int), (y.size : Int), 0, 0, 0, .slice none 0 0, []⟩ := ⟨_, rfl⟩
  have b1 : Below w0.heap.size w0 (w0.alloc (.cells #[.pointer (some ⟨y.D, 0, none⟩), .int .i64 (f : Int), .int .i64 (h : Int), .int .i64 (y.size : Int), .int .i64 0, .int .i64 0, .int .i64 0, .slice none 0 0] 76)) := (Below.refl _ _).alloc (Nat.le_refl _) _
  have gk : Blk (w0.alloc (.cells #[.pointer (some ⟨y.D, 0, none⟩), .int .i64 (f : Int), .int .i64 (h : Int), .int .i64 (y.size : Int), .int .i64 0, .int .i64 0, .int .i64 0, .slice none 0 0] 76)) w.heap.size 76 #[.pointer (some ⟨y.D, 0, none⟩), .int .i64 (f : Int), .int .i64 (h : Int), .int .i64 (y.size : Int), .int .i64 0, .int .i64 0, .int .i64 0, .slice none 0 0] := by
    have := Blk.new w0 76 #[.pointer (some ⟨y.D, 0, none⟩), .int .i64 (f : Int), .int .i64 (h : Int), .int .i64 (y.size : Int), .int .i64 0, .int .i64 0, .int .i64 0, .slice none 0 0]
    rw [hz0] at this
    exact this
  have hgy : ¬ y.foot w.heap.size := fun hk => by have := (hd.foot_lt hk).2; omega
  have J0 : JOK (w0.alloc (.cells #[.pointer (some ⟨y.D, 0, none⟩), .int .i64 (f : Int), .int .i64 (h : Int), .int .i64 (y.size : Int), .int .i64 0, .int .i64 0, .int .i64 0, .slice none 0 0] 76)) base j0 := by
    subst hj0
    exact ⟨gk, hd0.below b1, ⟨RowR.nil _ _ _, fun e => by simp [Value.ownBlock] at e, fun k hk => by simp [Value.ownBlock] at hk⟩, hbase, hgy⟩
  have hP : FindP j0 f h g := by
    subst hj0
    exact ⟨rfl, rfl, hf6, hh6, hget, hsm⟩
  have hL : fd = true → LoadP (j0.ue U E) f h U E rs lasts := fun hfd => by
    subst hj0
    exact ⟨rfl, rfl, rfl, rfl, rfl, hU, hO.dam hfd⟩
  have FC := hFC j0 _ J0 hP hL (by rw [hj0]) (T0.below b1) (by have := b1.size; omega)
  have hG0 : j0.G = w.heap.size := by rw [hj0]
  rw [hG0] at FC
  have B1 := b0.trans (b1.mono b0.size)
  have HJ := Lib.hid hj0
  have HG0 := Lib.hid hG0
  have HZ0 := Lib.hid hz0
  clear hFC hj0 hL hP gk hG0 hget hsm b1 T0 hd0 b0
  go_wp2_with fail
  clear hz0
  generalize w0.alloc (.cells #[.pointer (some ⟨y.D, 0, none⟩), .int .i64 (f : Int), .int .i64 (h : Int), .int .i64 (y.size : Int), .int .i64 0, .int .i64 0, .int .i64 0, .slice none 0 0] 76) = w1 at *
  refine FC.mono ?_
  clear FC
  rintro _ w2 ⟨rfl, k, a, v, xs, k1, k2, k3, xa, J2, fn⟩
  obtain ⟨AV, cV, hv, _, _⟩ : ∃ A c, v = .slice A xs.length c ∧ xs.length ≤ c ∧ c ≤ maxLen := own_form J2.kp.row.own
  subst hv
  obtain ⟨j2, hj2⟩ : ∃ j2, (j0.ue U E).got a (.slice AV xs.length cV) xs = j2 := ⟨_, rfl⟩
  have hj2s : j2.y = y ∧ j2.G = j0.G ∧ j2.from_ = (f : Int) ∧ j2.half = (h : Int) ∧ j2.size = (y.size : Int) ∧ j2.use = (U : Int) ∧ j2.epoch = (E : Int) ∧ j2.v = .slice AV xs.length cV ∧ j2.rs = xs := by
    rw [← hj2, HJ.out]
    exact ⟨rfl, rfl, rfl, rfl, rfl, rfl, rfl, rfl, rfl⟩
  rw [hj2] at J2 fn
  clear hj2
  obtain ⟨e1, e2, e3, e4, e5, e6, e7, e8, e9⟩ := hj2s
  have hs1 := B1.size
  have hs2 := fn.1.size
  have T2 : Tab w2 := (hT.below B1).far fn.1 (fun hk => by have := (J0.foot_lt hk).1; omega)
  have c7 : w2.cell? ⟨w.heap.size, 7, none⟩ = some (.slice AV xs.length cV) := by
    have := J2.c7
    rw [e2, HG0.out, e8] at this
    exact this
  have row := J2.kp.row
  rw [e8, e9] at row
  have hbs : ∀ x ∈ xs, x.body.length ≤ 4000 := fun x hx => (hO.base k).small x.abs (by rw [← xa]; exact List.mem_map_of_mem hx)
  have hB := hO.base k
  have hlb : h ≤ 65536 := hh6
  have hkl : xs.length ≤ h := by
    have h1 := len_le_sum hB.s19 hB.s40 (rs.take k) hB.small
    have h2 := hB.room
    have h3 : xs.length = (rs.take k).length := by rw [← xa, List.length_map]
    omega
  have CC := jcopied_calls xs AV cV w2 (own_rvfN (F := fun _ => False) row.own (fun _ hk => hk.elim)).rv (fun x hx => (row.ks x hx).mono fun _ _ hk => hk.elim) (fun x hx => by have := hbs x hx; omega) (by omega)
  have HT : Hid (∀ (w3 w4 : World) (v3 : Value) (rs3 : List RecR) (e : Ending), Below w2.heap.size w2 w3 → rs3.map RecR.abs = xs.map RecR.abs → RowR w3 w2.heap.size (fun k => k < w2.heap.size) v3 rs3 → RetTurn w3 base j2 (1 - U) (E + 1) (f + (1 - U) * h + pos j2.y.size (rs3.map RecR.abs) rs3.length) v3 rs3 (turnD j2.y.abs (f + (1 - U) * h) h (E + 1) (rs3.map RecR.abs)) e w4 → RetOpen w base y f h U E fd rs lasts (.returned (.tuple #[.pointer (some ⟨w.heap.size, 0, none⟩), .int .i64 0])) w4) := by
    intro w3 w4 v3 rs3 e b3 hra row3 R
    have hjv : j0.v = .slice none 0 0 := by rw [HJ.out]
    have hjy : j0.y = y := by rw [HJ.out]
    exact open_end (y := y) (k := k) hO hU k2 k1 k3 B1 hjy HG0.out hjv fn ⟨e1, e2, e3, e4, e5⟩ b3 (hra.trans xa) R (fun i hi => (row3.own.lt i hi).1)
  have HTC : Hid (∀ (w3 : World) (v3 : Value) (rs3 : List RecR), Below w2.heap.size w2 w3 → rs3.map RecR.abs = xs.map RecR.abs → RowR w3 w2.heap.size (fun k => k < w2.heap.size) v3 rs3 → Calls Tryd.prog 39 #[.pointer (some ⟨w.heap.size, 0, none⟩), v3] w3 (RetTurn w3 base j2 (1 - U) (E + 1) (f + (1 - U) * h + pos j2.y.size (rs3.map RecR.abs) rs3.length) v3 rs3 (turnD j2.y.abs (f + (1 - U) * h) h (E + 1) (rs3.map RecR.abs)))) := by
    intro w3 v3 rs3 b3 hra row3
    have J3 := J2.below b3
    have hs3 := b3.size
    have hK : KeepR w3 base j2.G j2.y v3 rs3 := ⟨row3.lower (by omega) (fun i _ hk => by
      rcases hk with rfl | hk
      · exact J2.gk.lt
      · exact (J2.dk.foot_lt hk).2), fun e => by have := (row3.own.lt _ e).1; have := J2.gk.lt; omega, fun i hi hf => by have := (row3.own.lt _ hi).1; have := (J2.dk.foot_lt hf).2; omega⟩
    have hTP : TurnP j2 f h U E rs3 := ⟨e3, e4, by rw [e5, e1], e6, e7, hU, by rw [e1, hra, xa]; exact hB, by rw [e1]; have := hO.wait; rw [wlen]; exact this⟩
    have := jturn_calls j2 f h U E v3 rs3 w3 base J3 hK hTP (T2.below b3) (by omega) hg
    rw [e2, HG0.out] at this
    exact this
  clear row J2 J0 fn k1 k2 k3 xa hbs hB hO hU hkl e1 e2 e3 e4 e5 e6 e7 e8 e9 hT T2 B1 hd
  go_wp2_with fail
  refine CC.mono ?_
  clear CC
  rintro _ w3 ⟨v3, rs3, rfl, hrl, hra, row3, b3⟩
  have TC := HTC.out w3 v3 rs3 b3 hra row3
  have HF := Lib.hid (fun w4 e R => HT.out w3 w4 v3 rs3 e b3 hra row3 R)
  clear HTC HT hrl hra row3 b3 c7
  go_wp2_with fail
  refine TC.mono ?_
  clear TC
  intro e w4 R
  have HG := Lib.hid (HF.out w4 e R)
  obtain ⟨rfl, _⟩ := R
  clear HF
  go_wp2
  go_ret2
  exact HG.out
end Go.Proofs.YtpojlchikaffhaaDoor
