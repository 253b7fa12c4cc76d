/-
  The walk of SpanParses.
-/
import Derived.Test.YtpcedmiehoimbaaDoorSpanAwake
import Derived.Test.YtpcedmiehoimbaaDoorSpanWalkI
namespace Go.Proofs.YtpcedmiehoimbaaDoor
open Go.RowKit SpanP
theorem par_is {l : List UInt8} {w : World} {e : Ending} {w' : World} (h : RetPar l w e w') {x y z : Int} (hx : parF l = x) (hy : parT l = y) (hz : parE l = z) : e = .returned (.tuple #[.agg #[.int .i64 x, .int .i64 y], .int .i64 z]) ∧ Gr w w' := by
  subst hx hy hz
  exact h
set_option maxHeartbeats 1600000 in
theorem spanParses_long (l : List UInt8) (h : 100 < l.length) (h2 : l.length ≤ 9223372036854775807) (w : World) (hS : Std w) : Calls Tryd.prog 9 #[.string (bstr l)] w fun e w' => e = .returned (.bool true) ∧ Gr w w' := by
  have hs : (bstr l).size = l.length := rfl
  have hd : decide (100 < (l.length : Int)) = true := by simp; omega
  have hd' : decide (100 < l.length) = true := by simp; omega
  go_enter Tryd.func9, Tryd.ntmps9
  go_wp2_with (first | (go_at_call 12; have _q := g1; refine (awake_calls _ (hS.gr g1)).mono ?_; rintro e w2 ⟨rfl, g2⟩) | (go_at_call 12; refine (awake_calls _ hS).mono ?_; rintro e w1 ⟨rfl, g1⟩))
  go_ret
  exact ⟨rfl, g1.trans g2⟩
set_option maxHeartbeats 1600000 in
theorem spanParses_short (l : List UInt8) (x y z : Int) (h : ¬ 100 < l.length) (hx : parF l = x) (hy : parT l = y) (hz : parE l = z) (hn : (z = 2) ∨ (z = 0 ∧ textL x y = l)) (w : World) (hS : Std w) : Calls Tryd.prog 9 #[.string (bstr l)] w fun e w' => e = .returned (.bool true) ∧ Gr w w' := by
  have hs : (bstr l).size = l.length := rfl
  have hd : decide (100 < (l.length : Int)) = false := by simp; omega
  have hd' : decide (100 < l.length) = false := by simp; omega
  have hp : Hid (∀ w : World, Std w → Calls Tryd.prog 32 #[.string (bstr l)] w fun e w' => e = .returned (.tuple #[.agg #[.int .i64 x, .int .i64 y], .int .i64 z]) ∧ Gr w w') := fun w hS => (sparse_calls l (by omega) w hS).mono fun _ _ h => par_is h hx hy hz
  have hq : Hid (∀ w : World, Calls Tryd.prog 33 #[.string (bstr l)] w fun e w' => e = .returned (.tuple #[.agg #[.int .i64 x, .int .i64 y], .int .i64 z]) ∧ Gr w w') := fun w => (rparse_calls l (by omega) w).mono fun _ _ h => par_is h hx hy hz
  clear hx hy hz
  have arm : True := trivial
  rcases hn with hn | ⟨hn, he⟩
  · subst hn
    go_enter Tryd.func9, Tryd.ntmps9
    go_wp2_with (first | (go_at_call 12; refine (awake_calls _ hS).mono ?_; rintro e w1 ⟨rfl, g1⟩; have S1 := hS.gr g1) | (go_at_call 32; refine (hp.out _ S1).mono ?_; rintro e w2 ⟨rfl, g2⟩; have G2 := g1.trans g2; have X2 := Blk.new w2 23 #[.int .i64 x, .int .i64 y]; have gx : Gr w2 (w2.alloc (.cells #[.int .i64 x, .int .i64 y] 23)) := (Gr.refl w2).alloc _) | (go_at_call 33; refine (hq.out _).mono ?_; rintro e w3 ⟨rfl, g3⟩; have G3 := G2.trans (gx.trans g3); have X3 := X2.below g3 X2.lt; have X4 := X3.alloc (.cells #[.int .i64 x, .int .i64 y] 23); have Y4 := Blk.new w3 23 #[.int .i64 x, .int .i64 y]; have c0 := X4.at_ (i := 0) (v := .int .i64 x) rfl; have c1 := X4.at_ (i := 1) (v := .int .i64 y) rfl; have G4 : Gr w (w3.alloc (.cells #[.int .i64 x, .int .i64 y] 23)) := G3.alloc _))
    go_ret
    exact ⟨rfl, G4⟩
  · subst hn
    have hee : ((bstr (textL x y)).toList == (bstr l).toList) = true := by rw [he]; simp
    clear he
    go_enter Tryd.func9, Tryd.ntmps9
    go_wp2_with (first | (go_at_call 12; refine (awake_calls _ hS).mono ?_; rintro e w1 ⟨rfl, g1⟩; have S1 := hS.gr g1) | (go_at_call 32; refine (hp.out _ S1).mono ?_; rintro e w2 ⟨rfl, g2⟩; have G2 := g1.trans g2; have X2 := Blk.new w2 23 #[.int .i64 x, .int .i64 y]; have gx : Gr w2 (w2.alloc (.cells #[.int .i64 x, .int .i64 y] 23)) := (Gr.refl w2).alloc _) | (go_at_call 33; refine (hq.out _).mono ?_; rintro e w3 ⟨rfl, g3⟩; have G3 := G2.trans (gx.trans g3); have X3 := X2.below g3 X2.lt; have X4 := X3.alloc (.cells #[.int .i64 x, .int .i64 y] 23); have Y4 := Blk.new w3 23 #[.int .i64 x, .int .i64 y]; have c0 := X4.at_ (i := 0) (v := .int .i64 x) rfl; have c1 := X4.at_ (i := 1) (v := .int .i64 y) rfl; have G4 : Gr w (w3.alloc (.cells #[.int .i64 x, .int .i64 y] 23)) := G3.alloc _) | (go_at_call 30; refine (stext_calls x y _ (hS.gr G4)).mono ?_; rintro e w5 ⟨rfl, g5⟩; have G5 := G4.trans g5))
    go_ret
    exact ⟨rfl, G5⟩
theorem spanParses_walk (l : List UInt8) (h2 : l.length ≤ 9223372036854775807) (w : World) (hS : Std w) : Calls Tryd.prog 9 #[.string (bstr l)] w fun e w' => e = .returned (.bool true) ∧ Gr w w' := by
  by_cases h : 100 < l.length
  · exact spanParses_long l h h2 w hS
  · refine spanParses_short l _ _ _ h rfl rfl rfl ?_ w hS
    unfold parE parF parT
    cases hp : pspan l with
    | none => exact .inl rfl
    | some q => exact .inr ⟨rfl, (pspan_some hp).1⟩
theorem spanParses_walkS (s : ByteArray) (h : s.size ≤ maxLen) (w : World) (hS : Std w) : Calls Tryd.prog 9 #[.string s] w fun e w' => e = .returned (.bool true) ∧ Gr w w' := by
  have e : bstr s.data.toList = s := by unfold bstr; apply ByteArray.ext; simp
  have hl : s.data.toList.length = s.size := Array.length_toList
  have := spanParses_walk s.data.toList (by rw [hl]; exact h) w hS
  rwa [e] at this
end Go.Proofs.YtpcedmiehoimbaaDoor
