/-
  The walk of PurgeLoads.
-/
import Derived.Test.YtdcjljlppeighaaDoorPurgeSame
import Derived.Test.YtdcjljlppeighaaDoorPurgeRefLoad
import Derived.Test.YtdcjljlppeighaaDoorPurgePlainC
namespace Go.Proofs.YtdcjljlppeighaaDoor
open Go.RowKit PurgeP

/-- Lines that came in, for their loading. -/
theorem lns_in {w : World} {A : Option Addr} {ls : List LnR} (h : RV w A (lC ls)) (hx : ∀ x ∈ ls, LineOK w x) : LnsIn w A ls := ⟨h, fun x hm => ⟨fun hne => by obtain ⟨b, off, e, h1, h2⟩ := (hx x hm).ks.rs hne; exact ⟨b, off, e, h1, fun hf => hf, h2⟩, (hx x hm).ks.le, (hx x hm).ks.cap⟩⟩
theorem load_ok {P : PLog} (h : P.OK) : loadE P.floor P.ls = 0 := by
  have h0 := h.f0
  have h1 := h.f1
  unfold loadE
  rw [if_neg (by omega), if_pos]
  unfold goodL
  rw [List.all_eq_true]
  intro i hi
  rw [List.mem_range] at hi
  have e : P.ls[i]? = some P.ls[i] := List.getElem?_eq_getElem hi
  rw [List.getD_eq_getElem?_getD, e, Option.getD_some, Bool.and_eq_true, decide_eq_true_eq]
  exact ⟨h.rt _ (List.getElem_mem _), h.no i _ e⟩
def kNew : List Txt := [[110, 101, 119]]
theorem right_new {P : PLog} (h0 : 0 ≤ P.now) (h1 : P.now ≤ 1000) : P.addN kNew true = P.now + 1 ∧ P.addE kNew true = 0 := by
  have : rightB (P.nextL kNew true) = true := by
    rw [right_iff]
    refine ⟨⟨?_, ?_, ?_, ?_⟩, ?_⟩
    · show 1 ≤ P.now + 1; omega
    · show P.now + 1 ≤ 1099511627776; omega
    · show 1 ≤ kNew.length; decide
    · show kNew.length ≤ 34; decide
    · show goodK kNew kNew.length = true; decide
  unfold PLog.addN PLog.addE
  rw [this]
  exact ⟨rfl, rfl⟩
/-- What each call tells of two logs that hold the same. -/
structure Tells (w5 : World) (D M : Nat) (A : Option Addr) (n c : Nat) (P : PLog) : Prop where
  nw : ∀ w9, Below w5.heap.size w5 w9 → Calls Tryd.prog 15 #[.pointer (some ⟨D, 0, none⟩)] w9 fun e w' => e = .returned (.int .i64 P.now) ∧ Below w9.heap.size w9 w'
  rn : ∀ w9, Below w5.heap.size w5 w9 → Calls Tryd.prog 16 #[.pointer (some ⟨M, 0, none⟩)] w9 fun e w' => e = .returned (.int .i64 P.now) ∧ Below w9.heap.size w9 w'
  fl : ∀ w9, Below w5.heap.size w5 w9 → Calls Tryd.prog 17 #[.pointer (some ⟨D, 0, none⟩)] w9 fun e w' => e = .returned (.int .i64 P.floor) ∧ w9 = w'
  c0 : ∀ w9, Below w5.heap.size w5 w9 → w9.cell? ⟨M, 0, none⟩ = some (.slice A n c)
  c1 : ∀ w9, Below w5.heap.size w5 w9 → w9.cell? ⟨M, 1, none⟩ = some (.int .i64 P.floor)
  li : ∀ w9, Below w5.heap.size w5 w9 → Calls Tryd.prog 19 #[.pointer (some ⟨D, 0, none⟩)] w9 fun e w' => ∃ v, e = .returned v ∧ Below w9.heap.size w9 w' ∧
    ∀ w10, Below w'.heap.size w' w10 → Calls Tryd.prog 18 #[v, .slice A n c] w10 fun e w' => e = .returned (.bool true) ∧ Below w10.heap.size w10 w'
theorem tells_of {w5 : World} {base : Nat} {X F : Nat → Prop} {y : LogR} {z : RefR} {P : PLog} (hL : LogOK w5 base X y) (hR : RefOK w5 F z) (ya : y.abs = P) (za : z.abs = P) : Tells w5 y.D z.M z.A z.ls.length z.cap P := by
  have zf : z.floor = P.floor := congrArg PLog.floor za
  have yf : y.floor = P.floor := congrArg PLog.floor ya
  refine ⟨fun w9 b9 => ?_, fun w9 b9 => ?_, fun w9 b9 => ?_, fun w9 b9 => (hR.below b9).bk.at_ rfl, fun w9 b9 => by rw [← zf]; exact (hR.below b9).bk.at_ rfl, fun w9 b9 => ?_⟩
  · have := now_calls y w9 base _ (hL.below b9)
    rw [ya] at this
    exact this.mono fun e w' ⟨h1, q, h2⟩ => ⟨h1, by rw [h2]; exact drewN_below w9 q⟩
  · have := rnow_calls z w9 _ (hR.below b9)
    rw [za] at this
    exact this.mono fun e w' ⟨h1, q, h2⟩ => ⟨h1, by rw [h2]; exact drewN_below w9 q⟩
  · have := floor_calls y w9 base _ (hL.below b9)
    rw [yf] at this
    exact this
  · refine (lines_calls y w9 base _ (hL.below b9)).mono ?_
    rintro e w' ⟨v, rfl, rs, _, hra, hrow, bel⟩
    refine ⟨v, rfl, bel, fun w10 b10 => ?_⟩
    have h9 := ((hR.below b9).below bel).below b10
    rw [List.take_length] at hra
    exact all_calls z _ _ _ v rs w10 (hrow.below b10) h9 (by
      rw [hra]
      have e1 : y.abs.ls = z.abs.ls := by rw [ya, za]
      exact e1)
theorem loads_off1 (ls : List LnR) (A : Option Addr) (cap : Nat) (floor : Int) (l : List ActR) (B : Option Addr) (cb : Nat) (w : World) (hS : Std w) (hl : l.length ≤ 9223372036854775807) (hR : RV w B (l.flatMap ActR.cells)) (hx : ∀ o ∈ l, ActOK w o) (hg : greatA l = true) :
    Calls Tryd.prog 9 #[.slice A ls.length cap, .int .i64 floor, .slice B l.length cb] w fun e w' => e = .returned (.bool true) ∧ Below w.heap.size w w' := by
  go_enter Tryd.func9, Tryd.ntmps9
  go_wp2_with fail
  refine (run_no l B cb w hl hR hx hg).mono ?_
  rintro e w2 ⟨M, rfl, b2⟩
  have AW := awake_calls _ (hS.below b2)
  clear hR hx hg
  go_wp2_with fail
  refine AW.mono ?_
  clear AW
  rintro e w3 ⟨rfl, b3⟩
  have B3 := b2.trans (b3.mono b2.size)
  have AW := awake_calls _ (hS.below B3)
  go_wp2_with fail
  refine AW.mono ?_
  clear AW
  rintro e w4 ⟨rfl, b4⟩
  go_wp2_with fail
  go_ret
  exact ⟨rfl, B3.trans (b4.mono B3.size)⟩
theorem loads_off2 (ls : List LnR) (A : Option Addr) (cap : Nat) (floor : Int) (l : List ActR) (B : Option Addr) (cb : Nat) (w : World) (hS : Std w) (hl : l.length ≤ 9223372036854775807) (hR : RV w B (l.flatMap ActR.cells)) (hx : ∀ o ∈ l, ActOK w o) (hg : greatA l = false) (hn : 20 < ls.length) (hnl : ls.length ≤ 9223372036854775807) :
    Calls Tryd.prog 9 #[.slice A ls.length cap, .int .i64 floor, .slice B l.length cb] w fun e w' => e = .returned (.bool true) ∧ Below w.heap.size w w' := by
  have d1 : decide (20 < (ls.length : Int)) = true := decide_eq_true (by omega)
  have d1' : decide (20 < ls.length) = true := decide_eq_true hn
  go_enter Tryd.func9, Tryd.ntmps9
  go_wp2_with fail
  refine (run_yes l B cb w hl hR hx hg).mono ?_
  rintro e w2 ⟨y, z, rfl, hB, b2⟩
  have AW := awake_calls _ (hS.below b2)
  clear hR hx hg hB
  go_wp2_with fail
  refine AW.mono ?_
  clear AW
  rintro e w3 ⟨rfl, b3⟩
  have B3 := b2.trans (b3.mono b2.size)
  have AW := awake_calls _ (hS.below B3)
  go_wp2_with fail
  refine AW.mono ?_
  clear AW
  rintro e w4 ⟨rfl, b4⟩
  go_wp2_with fail
  go_ret
  exact ⟨rfl, B3.trans (b4.mono B3.size)⟩
end Go.Proofs.YtdcjljlppeighaaDoor
