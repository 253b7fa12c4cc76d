/-
  The walk of a log's find.
-/
import Derived.Test.YtpojlchikaffhaaDoorJourLoadB
namespace Go.Proofs.YtpojlchikaffhaaDoor
open Go.RowKit DiskP SumP PageP JourP

/-- Which half is in use, its epoch, and whether there is one, when the first k halves were looked at; g tells the epoch of a half that has a head. -/
def findSt (g : Nat → Option Nat) : Nat → Nat × Nat × Bool
  | 0 => (1, 0, false)
  | k + 1 => match g k with
    | none => findSt g k
    | some m => if (findSt g k).2.2 = false ∨ (findSt g k).2.1 < m then (k, m, true) else findSt g k
def JL.ue (j : JL) (u e : Nat) : JL := { j with use := (u : Int), epoch := (e : Int) }
/-- What the halves' heads tell. -/
def headR : Option Nat → Int × UInt8 × Int × List UInt8 × Int
  | some m => (0, 72, (m : Int), [], 1)
  | none => (2, 0, 0, [], 0)
structure FindP (j : JL) (f h : Nat) (g : Nat → Option Nat) : Prop where
  ffrom : j.from_ = (f : Int)
  fhalf : j.half = (h : Int)
  hf : f ≤ 65536
  hh : h ≤ 65536
  get : ∀ i, i < 2 → getR j.y.abs ((f + i * h : Nat) : Int) = headR (g i)
  small : ∀ i m, g i = some m → m ≤ 1000000
theorem findSt_le (g : Nat → Option Nat) (k : Nat) (hk : k ≤ 2) : (findSt g k).1 ≤ 1 := by
  induction k with
  | zero => exact Nat.le_refl _
  | succ k ih =>
    unfold findSt
    split
    · exact ih (by omega)
    · split
      · show k ≤ 1; omega
      · exact ih (by omega)
theorem findSt_small {g : Nat → Option Nat} (h : ∀ i m, g i = some m → m ≤ 1000000) (k : Nat) : (findSt g k).2.1 ≤ 1000000 := by
  induction k with
  | zero => exact Nat.zero_le _
  | succ k ih =>
    unfold findSt
    split
    · exact ih
    · rename_i m hm
      split
      · exact h k m hm
      · exact ih
theorem JOK.setUE {w : World} {base : Nat} {j : JL} (h : JOK w base j) (u e : Nat) : JOK ((w.setCell ⟨j.G, 4, none⟩ (.int .i64 (u : Int))).setCell ⟨j.G, 5, none⟩ (.int .i64 (e : Int))) base (j.ue u e) ∧ FootN w j (j.ue u e) ((w.setCell ⟨j.G, 4, none⟩ (.int .i64 (u : Int))).setCell ⟨j.G, 5, none⟩ (.int .i64 (e : Int))) := by
  have K : Kept (fun k => k = j.G) w ((w.setCell ⟨j.G, 4, none⟩ (.int .i64 (u : Int))).setCell ⟨j.G, 5, none⟩ (.int .i64 (e : Int))) := ((Kept.refl (fun k => k = j.G) w).setCell (p := ⟨j.G, 4, none⟩) (.inl rfl) _).setCell (p := ⟨j.G, 5, none⟩) (.inl rfl) _
  exact ⟨h.struct (j' := j.ue u e) K rfl rfl ((h.gk.set_ 4 _).set_ 5 _) h.kp, K.mono fun k _ hk => .inl hk, fun _ hk => .inl hk⟩
/-- What find gives back. -/
def RetFind (w : World) (base : Nat) (j : JL) (st : Nat × Nat × Bool) (rs : List Rec) (lasts : Nat) (e : Ending) (w' : World) : Prop :=
  e = .returned (.int .i64 0) ∧ ∃ k a v xs, (st.2.2 = true → lasts ≤ k) ∧ k ≤ rs.length ∧ (st.2.2 = false → k = 0) ∧ xs.map RecR.abs = rs.take k ∧ JOK w' base ((j.ue st.1 st.2.1).got a v xs) ∧ FootN w j ((j.ue st.1 st.2.1).got a v xs) w'
theorem JL.ue_ue (j : JL) (a b c d : Nat) : (j.ue a b).ue c d = j.ue c d := rfl
set_option maxHeartbeats 3200000 in
set_option maxRecDepth 100000 in
theorem jfind_calls (j : JL) (f h : Nat) (g : Nat → Option Nat) (rs : List Rec) (lasts : Nat) (w : World) (base : Nat) (hJ : JOK w base j) (hP : FindP j f h g) (hL : (findSt g 2).2.2 = true → LoadP (j.ue (findSt g 2).1 (findSt g 2).2.1) f h (findSt g 2).1 (findSt g 2).2.1 rs lasts) (hrs : j.rs = []) (hT : Tab w) (hbase : base ≤ w.heap.size) (hg : 0 < base) :
    Calls Tryd.prog 38 #[.pointer (some ⟨j.G, 0, none⟩)] w (RetFind w base j (findSt g 2) rs lasts) := by
  have hf := hP.hf
  have hh := hP.hh
  have hvA := hJ.gk
  have c4 : w.cell? ⟨j.G, 4, none⟩ = some (.int .i64 j.use) := hJ.gk.at_ rfl
  have c5 : w.cell? ⟨j.G, 5, none⟩ = some (.int .i64 j.epoch) := hJ.gk.at_ rfl
  have y4 := hJ.gk.frozen 4
  have y5 := hJ.gk.frozen 5
  obtain ⟨X1, X2⟩ := hJ.setUE 1 0
  have HX1 : Hid (JOK ((w.setCell ⟨j.G, 4, none⟩ (.int .i64 1)).setCell ⟨j.G, 5, none⟩ (.int .i64 0)) base (j.ue 1 0)) := X1
  have HX2 : Hid (FootN w j (j.ue 1 0) ((w.setCell ⟨j.G, 4, none⟩ (.int .i64 1)).setCell ⟨j.G, 5, none⟩ (.int .i64 0))) := X2
  clear X1 X2 hvA
  go_enter Tryd.func38, Tryd.ntmps38
  go_wp2_with fail
  generalize (w.setCell ⟨j.G, 4, none⟩ (.int .i64 1)).setCell ⟨j.G, 5, none⟩ (.int .i64 0) = w1 at *
  clear c4 c5 y4 y5
  go_loopw [3, 16] (fun fd i wr => ∃ k : Nat, k ≤ 2 ∧ i = .int .i64 (k : Int) ∧ fd = .bool (findSt g k).2.2 ∧ JOK wr base (j.ue (findSt g k).1 (findSt g k).2.1) ∧ FootN w j (j.ue (findSt g k).1 (findSt g k).2.1) wr) (fun _ i _ => 2 - (intOf i).toNat)
  case atStart => exact ⟨0, by omega, rfl, rfl, HX1.out, HX2.out⟩
  case round =>
    obtain ⟨k, hk, rfl, rfl, J, FN⟩ := hrel
    have hU := findSt_le g k hk
    have hE := findSt_small hP.small k
    have Tr : Tab wr := tab_kept hT hJ hg FN.1 (fun _ h => h)
    by_cases hlt : k < 2
    · have dec : decide ((k : Int) < 2) = true := decide_eq_true (by omega)
      have HST : Hid (∀ g', g k = g' → findSt g (k + 1) = match g' with | none => findSt g k | some m => if (findSt g k).2.2 = false ∨ (findSt g k).2.1 < m then (k, m, true) else findSt g k) := by
        intro g' hg'
        rw [← hg']
        rfl
      have PG := pget_calls j.y ((f + k * h : Nat) : Int)
      rw [hP.get k hlt] at PG
      obtain ⟨st, hst⟩ : ∃ st, findSt g k = st := ⟨_, rfl⟩
      rw [hst] at J FN hU hE HST ⊢
      obtain ⟨U, E, fd⟩ := st
      simp only at J FN hU hE HST ⊢
      have hkk : k * h ≤ 65536 := by rcases (show k = 0 ∨ k = 1 by omega) with rfl | rfl <;> omega
      obtain ⟨b, hb⟩ : ∃ b, f + k * h = b := ⟨_, rfl⟩
      have BC := fun w9 (hJ9 : JOK w9 base (j.ue U E)) => (jbegin_calls (j.ue U E) k f h w9 base hJ9 (by omega) hP.ffrom hP.fhalf hf hh).mono (fun _ _ ⟨a, q, hb⟩ => (⟨a, hb ▸ drewN_below w9 q⟩ : _ ∧ Below w9.heap.size w9 _))
      rw [hb] at PG BC
      have gk : Blk wr j.G 76 #[.pointer (some ⟨j.y.D, 0, none⟩), .int .i64 j.from_, .int .i64 j.half, .int .i64 j.size, .int .i64 (U : Int), .int .i64 (E : Int), .int .i64 j.at_, j.v] := J.gk
      have hgl := gk.lt
      have bd : Below wr.heap.size wr wr.drew := (Below.refl _ _).drew
      have BCd : Calls Tryd.prog 42 #[.pointer (some ⟨j.G, 0, none⟩), .int .i64 (k : Int)] wr.drew (fun e w9 => e = .returned (.int .i64 (b : Int)) ∧ Below wr.heap.size wr w9) := (BC _ (J.below bd)).mono fun _ _ ⟨a, b9⟩ => ⟨a, ⟨b9.os, b9.tape, b9.output, b9.size, b9.block⟩⟩
      have HS : Hid (∀ wq, Below wr.heap.size wr wq → wq.cell? ⟨j.G, 0, none⟩ = some (.pointer (some ⟨j.y.D, 0, none⟩))) := fun wq bq => (gk.below bq hgl).at_ rfl
      have f1 := HS.out _ bd
      have HB := Lib.hid hb
      have Hst := Lib.hid hst
      clear BC hb hkk hst
      cases hgk : g k with
      | none =>
        rw [hgk] at PG
        have PN : ∀ w9, Below wr.heap.size wr w9 → Calls Tryd.prog 51 #[.pointer (some ⟨j.y.D, 0, none⟩), .int .i64 (b : Int)] w9 (fun e w5 => ∃ A c, e = .returned (.tuple #[.int .u8 0, .int .i64 0, .slice A 0 c, .int .i64 0, .int .i64 2]) ∧ Below wr.heap.size wr w5) := fun w9 b9 => (PG w9 base (J.below b9).dk (Tr.below b9)).mono (by
          rintro _ w5 ⟨v5, rfl, o5, b5⟩
          obtain ⟨A, c, hv, _, _⟩ := own_form o5
          rw [hv]
          exact ⟨A, c, rfl, b9.trans (b5.mono b9.size)⟩)
        have hS : findSt g (k + 1) = (U, E, fd) := HST.out none hgk
        have HR : Hid (∀ w5, Below wr.heap.size wr w5 → JOK w5 base (j.ue U E) ∧ FootN w j (j.ue U E) w5) := fun w5 b5 => ⟨J.below b5, FN.trans (FootN.below b5)⟩
        have HSS := Lib.hid hS
        clear hS HST hgk PG J FN Tr gk hL
        go_wp2_with fail
        go_region_held (fun wq => wq.cell? ⟨j.G, 0, none⟩ = some (.pointer (some ⟨j.y.D, 0, none⟩))) (first | exact f1 | exact f9 | exact f5) (first
          | (go_at_call 42; (with_reducible refine BCd.mono ?_); rintro _ w9 ⟨rfl, b9⟩; have f9 := HS.out _ b9)
          | (go_at_call 51; (with_reducible refine (PN w9 b9).mono ?_); rintro _ w5 ⟨A5, c5, rfl, b5⟩; have f5 := HS.out _ b5))
        have HRR := Lib.hid (HR.out w5 b5)
        clear HR PN BCd HS f1 f9 f5 b9 b5
        go_wp2
        go_roundw
        case rel => exact ⟨k + 1, by omega, by go_num, by rw [HSS.out], by rw [HSS.out]; exact HRR.out.1, by rw [HSS.out]; exact HRR.out.2⟩
        case measure => simp [intOf]; omega
      | some m =>
        rw [hgk] at PG
        have PN : ∀ w9, Below wr.heap.size wr w9 → Calls Tryd.prog 51 #[.pointer (some ⟨j.y.D, 0, none⟩), .int .i64 (b : Int)] w9 (fun e w5 => ∃ A c, e = .returned (.tuple #[.int .u8 72, .int .i64 (m : Int), .slice A 0 c, .int .i64 1, .int .i64 0]) ∧ Below wr.heap.size wr w5) := fun w9 b9 => (PG w9 base (J.below b9).dk (Tr.below b9)).mono (by
          rintro _ w5 ⟨v5, rfl, o5, b5⟩
          obtain ⟨A, c, hv, _, _⟩ := own_form o5
          rw [hv]
          exact ⟨A, c, rfl, b9.trans (b5.mono b9.size)⟩)
        have hS : findSt g (k + 1) = if fd = false ∨ E < m then (k, m, true) else (U, E, fd) := HST.out (some m) hgk
        have HR : Hid (∀ w5, Below wr.heap.size wr w5 → JOK w5 base (j.ue U E) ∧ FootN w j (j.ue U E) w5) := fun w5 b5 => ⟨J.below b5, FN.trans (FootN.below b5)⟩
        have HG : Hid (∀ w5, Below wr.heap.size wr w5 → Blk w5 j.G 76 #[.pointer (some ⟨j.y.D, 0, none⟩), .int .i64 j.from_, .int .i64 j.half, .int .i64 j.size, .int .i64 (U : Int), .int .i64 (E : Int), .int .i64 j.at_, j.v]) := fun w5 b5 => gk.below b5 hgl
        have HSS := Lib.hid hS
        clear hS HST hgk PG J FN Tr gk hL
        go_wp2_with fail
        go_region_held (fun wq => wq.cell? ⟨j.G, 0, none⟩ = some (.pointer (some ⟨j.y.D, 0, none⟩))) (first | exact f1 | exact f9 | exact f5) (first
          | (go_at_call 42; (with_reducible refine BCd.mono ?_); rintro _ w9 ⟨rfl, b9⟩; have f9 := HS.out _ b9)
          | (go_at_call 51; (with_reducible refine (PN w9 b9).mono ?_); rintro _ w5 ⟨A5, c5, rfl, b5⟩; have f5 := HS.out _ b5))
        have HRR := Lib.hid (HR.out w5 b5)
        have g5 := HG.out w5 b5
        have e4 : w5.cell? ⟨j.G, 4, none⟩ = some (.int .i64 (U : Int)) := g5.at_ rfl
        have e5 : w5.cell? ⟨j.G, 5, none⟩ = some (.int .i64 (E : Int)) := g5.at_ rfl
        have y4 := g5.frozen 4
        have y5 := g5.frozen 5
        obtain ⟨X1, X2⟩ := HRR.out.1.setUE k m
        rw [JL.ue_ue] at X1 X2
        have HY1 : Hid (JOK ((w5.setCell ⟨j.G, 4, none⟩ (.int .i64 (k : Int))).setCell ⟨j.G, 5, none⟩ (.int .i64 (m : Int))) base (j.ue k m)) := X1
        have HY2 : Hid (FootN w j (j.ue k m) ((w5.setCell ⟨j.G, 4, none⟩ (.int .i64 (k : Int))).setCell ⟨j.G, 5, none⟩ (.int .i64 (m : Int)))) := HRR.out.2.trans X2
        clear X1 X2 HR HG PN BCd HS f1 f9 f5 b9 b5 g5
        by_cases hcase : fd = false ∨ E < m
        · have HS2 : Hid (findSt g (k + 1) = (k, m, true)) := HSS.out.trans (if_pos hcase)
          cases fd with
          | false =>
            clear hcase
            go_wp2
            go_roundw
            case rel => exact ⟨k + 1, by omega, by go_num, by rw [HS2.out], by rw [HS2.out]; exact HY1.out, by rw [HS2.out]; exact HY2.out⟩
            case measure => simp [intOf]; omega
          | true =>
            have hEm : E < m := by simpa using hcase
            have d1 : decide ((E : Int) < (m : Int)) = true := decide_eq_true (by omega)
            have d1' : decide (E < m) = true := decide_eq_true hEm
            clear hcase hEm
            go_wp2
            go_roundw
            case rel => exact ⟨k + 1, by omega, by go_num, by rw [HS2.out], by rw [HS2.out]; exact HY1.out, by rw [HS2.out]; exact HY2.out⟩
            case measure => simp [intOf]; omega
        · have HS2 : Hid (findSt g (k + 1) = (U, E, fd)) := HSS.out.trans (if_neg hcase)
          cases fd with
          | false => exact absurd (.inl rfl) hcase
          | true =>
            have hEm : ¬ E < m := fun h => hcase (.inr h)
            have d1 : decide ((E : Int) < (m : Int)) = false := decide_eq_false (by omega)
            have d1' : decide (E < m) = false := decide_eq_false hEm
            clear hcase hEm
            go_wp2
            go_roundw
            case rel => exact ⟨k + 1, by omega, by go_num, by rw [HS2.out], by rw [HS2.out]; exact HRR.out.1, by rw [HS2.out]; exact HRR.out.2⟩
            case measure => simp [intOf]; omega
    · obtain rfl : k = 2 := by omega
      have dec : decide (((2 : Nat) : Int) < 2) = false := by decide
      obtain ⟨st, hst⟩ : ∃ st, findSt g 2 = st := ⟨_, rfl⟩
      rw [hst] at J FN hU hE hL ⊢
      obtain ⟨U, E, fd⟩ := st
      simp only at J FN hU hE hL ⊢
      have hs1 : w.heap.size ≤ wr.heap.size := FN.1.size
      have gk : Blk wr j.G 76 #[.pointer (some ⟨j.y.D, 0, none⟩), .int .i64 j.from_, .int .i64 j.half, .int .i64 j.size, .int .i64 (U : Int), .int .i64 (E : Int), .int .i64 j.at_, j.v] := J.gk
      have HU := Lib.hid hst
      cases fd with
      | false =>
        have c4 : wr.cell? ⟨j.G, 4, none⟩ = some (.int .i64 (U : Int)) := gk.at_ rfl
        have BC : Calls Tryd.prog 42 #[.pointer (some ⟨j.G, 0, none⟩), .int .i64 (U : Int)] wr (fun e w9 => e = .returned (.int .i64 ((f + U * h : Nat) : Int)) ∧ Below wr.heap.size wr w9) := (jbegin_calls (j.ue U E) U f h wr base J hU hP.ffrom hP.fhalf hf hh).mono (fun _ _ ⟨a, q, hb⟩ => ⟨a, hb ▸ drewN_below wr q⟩)
        obtain ⟨b, hb⟩ : ∃ b, f + U * h = b := ⟨_, rfl⟩
        rw [hb] at BC
        have HR : Hid (∀ w9, Below wr.heap.size wr w9 → RetFind w base j (findSt g 2) rs lasts (.returned (.int .i64 0)) (w9.setCell ⟨j.G, 6, none⟩ (.int .i64 (b : Int)))) := by
          intro w9 b9
          obtain ⟨s1, _⟩ := (J.below b9).setAt (b : Int)
          have s2 := (FN.trans (FootN.below b9)).trans (FootN.setAt (J.below b9) (b : Int))
          rw [hst]
          exact ⟨rfl, 0, (b : Int), j.v, j.rs, fun h => (by simp at h), Nat.zero_le _, fun _ => rfl, by rw [hrs]; rfl, s1, s2⟩
        have KB : Hid (∀ w9, Below wr.heap.size wr w9 → w9.cell? ⟨j.G, 6, none⟩ = some (.int .i64 j.at_) ∧ w9.frozen? ⟨j.G, 6, none⟩ = false) := fun w9 b9 => ⟨(gk.below b9 gk.lt).at_ rfl, (gk.below b9 gk.lt).frozen 6⟩
        clear hb hst J FN gk hL hrs Tr
        go_wp2_with fail
        refine BC.mono ?_
        clear BC
        rintro _ w9 ⟨rfl, b9⟩
        obtain ⟨c6, y6⟩ := KB.out w9 b9
        have HF := Lib.hid (HR.out w9 b9)
        clear KB HR b9
        go_wp2
        go_ret
        exact HF.out
      | true =>
        have LC := jload_calls (j.ue U E) f h U E rs lasts wr base J (hL rfl) hrs Tr (by omega) hg
        have HR : Hid (∀ e w', RetLoad wr base (j.ue U E) rs lasts e w' → RetFind w base j (findSt g 2) rs lasts e w') := by
          rintro e w' ⟨rfl, k, a, v, xs, k1, k2, k3, k4, k5⟩
          rw [hst]
          exact ⟨rfl, k, a, v, xs, fun _ => k1, k2, fun h => (by simp at h), k3, k4, FN.trans k5⟩
        clear hst J FN gk hL hrs Tr
        go_wp2_with fail
        refine LC.mono ?_
        clear LC
        intro e w9 R
        have HF := Lib.hid (HR.out e w9 R)
        obtain ⟨rfl, _⟩ := R
        clear HR
        go_wp2
        go_ret
        exact HF.out
end Go.Proofs.YtpojlchikaffhaaDoor
