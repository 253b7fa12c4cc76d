/-
  Walks: a log's Last and Any, with their closures.
-/
import Derived.Test.YtdcjljlppeighaaDoorPurgeNewest
import Derived.Shelf.Abstract
namespace Go.Proofs.YtdcjljlppeighaaDoor
open Go.RowKit PurgeP

def anyK (ks keys : List Txt) : Bool := ks.any fun k => hasB keys k
theorem anyK_succ (ks keys : List Txt) (k : Nat) (hk : k < ks.length) : anyK (ks.take (k + 1)) keys = (anyK (ks.take k) keys || hasB keys (ks.getD k [])) := by
  unfold anyK
  rw [List.take_succ_eq_append_getElem hk, List.any_append, List.getD_eq_getElem?_getD, List.getElem?_eq_getElem hk, Option.getD_some]
  simp
theorem anyK_at (ks keys : List Txt) (k : Nat) (hk : k < ks.length) (h : hasB keys (ks.getD k []) = true) : anyK ks keys = true := by
  unfold anyK
  rw [List.any_eq_true]
  rw [List.getD_eq_getElem?_getD, List.getElem?_eq_getElem hk, Option.getD_some] at h
  exact ⟨_, List.getElem_mem hk, h⟩
theorem makeFunc_run (fn : Fn) (first cap : Array Value) (w : World) : (Instr.makeFunc fn first cap).run Tryd.prog w = .ok (.func fn first cap) w := rfl
theorem pred_calls (k : Txt) (keys : List Txt) (n : Nat) (hn : keys.length = n) (A : Option Addr) (cap KB : Nat) (w : World) (hR : RS w A keys) (hl : n ≤ 9223372036854775807) (hc : w.cell? ⟨KB, 0, none⟩ = some (.slice A n cap)) :
    Calls Tryd.prog 43 #[.string (bstr k), .pointer (some ⟨KB, 0, none⟩)] w fun e w' => e = .returned (.bool (hasB keys k)) ∧ w = w' := by
  go_enter Tryd.func43, Tryd.ntmps43
  go_wp2_with fail
  refine (contains_calls keys n hn k A cap w hR hl).mono ?_
  rintro e w' ⟨rfl, rfl⟩
  go_wp2
  go_ret
  exact ⟨rfl, rfl⟩
def FoundF (ks keys : List Txt) (e : Ending) : Prop := ∃ x : Int, e = .returned (.int .i64 x) ∧ decide (0 ≤ x) = anyK ks keys
theorem indexF_calls (ks : List Txt) (B : Option Addr) (cb : Nat) (keys : List Txt) (n : Nat) (hn : keys.length = n) (A : Option Addr) (cap KB : Nat) (w : World) (hK : RS w B ks) (hkl : ks.length ≤ 9223372036854775807) (hR : RS w A keys) (hl : n ≤ 9223372036854775807) (hc : w.cell? ⟨KB, 0, none⟩ = some (.slice A n cap)) :
    Calls Tryd.prog 58 #[.slice B ks.length cb, .func (.func 43) #[] #[.pointer (some ⟨KB, 0, none⟩)]] w fun e w' => FoundF ks keys e ∧ w = w' := by
  have PC := fun k => pred_calls k keys n hn A cap KB w hR hl hc
  clear hR hc
  go_enter Tryd.func58, Tryd.ntmps58
  go_wp2
  go_loop [5, 8] (fun _ i => ∃ k : Nat, k ≤ ks.length ∧ i = .int .i64 k ∧ anyK (ks.take k) keys = false) (fun _ i => ks.length - (intOf i).toNat)
  case atStart => exact ⟨0, by omega, rfl, rfl⟩
  case round =>
    obtain ⟨k, hk, rfl, hp⟩ := hrel
    by_cases hlt : k < ks.length
    · have hdec : decide ((k : Int) < (ks.length : Int)) = true := decide_eq_true (by omega)
      have hdec' : decide (k < ks.length) = true := decide_eq_true hlt
      obtain ⟨b, off, rfl, hb, hcc⟩ := hK.at_ hlt
      have HT := Lib.hid (anyK_succ ks keys k hlt)
      have HA := Lib.hid (anyK_at ks keys k hlt)
      have HP := Lib.hid hp
      have PCk := PC (ks.getD k [])
      clear hp PC
      generalize ks.getD k [] = c at *
      cases hq : hasB keys c
      · rw [hq] at PCk
        have HR : Hid (anyK (ks.take (k + 1)) keys = false) := by show _ = _; rw [HT.out, HP.out, hq]; rfl
        clear hq
        go_wp2_with fail
        refine PCk.mono ?_
        rintro e w' ⟨rfl, rfl⟩
        go_wp2
        go_round
        case rel => exact ⟨k + 1, by omega, by go_num, HR.out⟩
        case measure => simp [intOf]; omega
      · rw [hq] at PCk
        have HF : Hid (anyK ks keys = true) := HA.out hq
        clear hq
        go_wp2_with fail
        refine PCk.mono ?_
        rintro e w' ⟨rfl, rfl⟩
        go_wp2
        go_ret
        exact ⟨⟨_, rfl, by rw [HF.out]; exact decide_eq_true (by omega)⟩, rfl⟩
    · obtain rfl : k = ks.length := by omega
      rw [List.take_length] at hp
      have HF := Lib.hid hp
      clear hp PC
      go_wp2
      go_ret
      exact ⟨⟨_, rfl, by rw [HF.out]; rfl⟩, rfl⟩
theorem containsF_calls (ks : List Txt) (B : Option Addr) (cb : Nat) (keys : List Txt) (n : Nat) (hn : keys.length = n) (A : Option Addr) (cap KB : Nat) (w : World) (hK : RS w B ks) (hkl : ks.length ≤ 9223372036854775807) (hR : RS w A keys) (hl : n ≤ 9223372036854775807) (hc : w.cell? ⟨KB, 0, none⟩ = some (.slice A n cap)) :
    Calls Tryd.prog 42 #[.slice B ks.length cb, .func (.func 43) #[] #[.pointer (some ⟨KB, 0, none⟩)]] w fun e w' => e = .returned (.bool (anyK ks keys)) ∧ w = w' := by
  go_enter Tryd.func42, Tryd.ntmps42
  go_wp2_with fail
  refine (indexF_calls ks B cb keys n hn A cap KB w hK hkl hR hl hc).mono ?_
  rintro e w' ⟨⟨x, rfl, hx⟩, rfl⟩
  have HX := Lib.hid hx
  clear hx
  go_wp2
  go_ret
  exact ⟨by rw [← HX.out]; rfl, rfl⟩
/-- Last's closure. -/
theorem meant_calls (r : LnR) (hard : Bool) (keys : List Txt) (n : Nat) (hn : keys.length = n) (A : Option Addr) (cap KB HB : Nat) (w : World) (hK : RS w r.A r.keys) (hkl : r.keys.length ≤ 9223372036854775807) (hR : RS w A keys) (hl : n ≤ 9223372036854775807) (hKB : KB < w.heap.size) (hc : w.cell? ⟨KB, 0, none⟩ = some (.slice A n cap)) (hHB : HB < w.heap.size) (hh : w.cell? ⟨HB, 0, none⟩ = some (.bool hard)) :
    Calls Tryd.prog 41 #[.agg r.cells.toArray, .pointer (some ⟨HB, 0, none⟩), .pointer (some ⟨KB, 0, none⟩)] w fun e w' => e = .returned (.bool (meant keys hard r.abs)) ∧ Below w.heap.size w w' := by
  obtain ⟨no, B, cb, ks, hd⟩ := r
  simp only at hK hkl
  have b1 : Below w.heap.size w (w.alloc (.cells #[.int .i64 no, .slice B ks.length cb, .bool hd] 54)) := (Below.refl _ _).alloc (Nat.le_refl _) _
  have xb := Blk.new w 54 #[.int .i64 no, .slice B ks.length cb, .bool hd]
  have HM : Hid (meant keys hard (LnR.abs ⟨no, B, cb, ks, hd⟩) = ((hd || !hard) && anyK ks keys)) := rfl
  have hK1 := hK.below b1
  have hR1 := hR.below b1
  have hc1 := (b1.cell (p := ⟨KB, 0, none⟩) hKB).trans hc
  have hh1 := (b1.cell (p := ⟨HB, 0, none⟩) hHB).trans hh
  have CC := containsF_calls ks B cb keys n hn A cap KB _ hK1 hkl hR1 hl hc1
  have mf := makeFunc_run
  clear hK hR hc hh hc1 hK1 hR1
  show Calls Tryd.prog 41 #[.agg #[.int .i64 no, .slice B ks.length cb, .bool hd], .pointer (some ⟨HB, 0, none⟩), .pointer (some ⟨KB, 0, none⟩)] w _
  generalize hw1 : w.alloc (.cells #[.int .i64 no, .slice B ks.length cb, .bool hd] 54) = w1 at *
  have x1 : w1.cell? ⟨w.heap.size, 1, none⟩ = some (.slice B ks.length cb) := xb.at_ rfl
  have x2 : w1.cell? ⟨w.heap.size, 2, none⟩ = some (.bool hd) := xb.at_ rfl
  cases hd <;> cases hard
  all_goals
    go_enter Tryd.func41, Tryd.ntmps41
    go_wp2_with fail
    try rw [hw1]
    first
      | (refine CC.mono ?_
         rintro e w' ⟨rfl, rfl⟩
         go_wp2
         go_ret
         exact ⟨by rw [HM.out]; rfl, b1⟩)
      | (go_wp2
         go_ret
         exact ⟨by rw [HM.out]; rfl, b1⟩)
/-- Any's closure. -/
theorem hard_calls (r : LnR) (w : World) : Calls Tryd.prog 47 #[.agg r.cells.toArray] w fun e w' => e = .returned (.bool r.hard) ∧ Below w.heap.size w w' := by
  obtain ⟨no, B, cb, ks, hd⟩ := r
  show Calls Tryd.prog 47 #[.agg #[.int .i64 no, .slice B ks.length cb, .bool hd]] w _
  go_enter Tryd.func47, Tryd.ntmps47
  go_wp2
  go_ret
  exact ⟨rfl, (Below.refl _ _).alloc (Nat.le_refl _) _⟩
theorem last_eq (l : PLog) (keys : List Txt) (behind upTo : Int) (hard : Bool) : l.newest behind upTo (meant keys hard) = l.last keys behind upTo hard := rfl
theorem last_calls (y : LogR) (keys : List Txt) (n : Nat) (hn : keys.length = n) (behind upTo : Int) (hard : Bool) (A : Option Addr) (cap : Nat) (w : World) (base : Nat) (X : Nat → Prop) (h : LogOK w base X y) (hR : RS w A keys) (hl : n ≤ 9223372036854775807) :
    Calls Tryd.prog 22 #[.pointer (some ⟨y.D, 0, none⟩), .slice A n cap, .int .i64 behind, .int .i64 upTo, .bool hard] w (RetNum (y.abs.last keys behind upTo hard) w) := by
  have hs1 : (w.alloc (.cells #[.slice A n cap] 31)).heap.size = w.heap.size + 1 := by simp
  have kb := (Blk.new w 31 #[.slice A n cap]).alloc (.cells #[.bool hard] 4)
  have hb := Blk.new (w.alloc (.cells #[.slice A n cap] 31)) 4 #[.bool hard]
  rw [hs1] at hb
  have B1 : Below w.heap.size w ((w.alloc (.cells #[.slice A n cap] 31)).alloc (.cells #[.bool hard] 4)) := ((Below.refl _ _).alloc (Nat.le_refl _) _).alloc (by simp) _
  have h1 := h.below B1
  have hR1 := hR.below B1
  have mf := makeFunc_run
  clear hs1 h hR
  go_enter Tryd.func22, Tryd.ntmps22
  go_wp2_with fail
  generalize (w.alloc (.cells #[.slice A n cap] 31)).alloc (.cells #[.bool hard] 4) = w1 at *
  have NC := newest_calls y behind upTo 41 #[.pointer (some ⟨w.heap.size + 1, 0, none⟩), .pointer (some ⟨w.heap.size, 0, none⟩)] (meant keys hard) (enters_of Tryd.func41 (by kernel_rfl) rfl) w1 base X h1 (fun W x hx hB => meant_calls x hard keys n hn A cap w.heap.size (w.heap.size + 1) W ((h1.ks x hx).rs.below hB) (Nat.le_trans (h1.ks x hx).cap (h1.ks x hx).c63) (hR1.below hB) hl (kb.below hB kb.lt).lt ((kb.below hB kb.lt).at_ rfl) (hb.below hB hb.lt).lt ((hb.below hB hb.lt).at_ rfl))
  rw [last_eq] at NC
  refine NC.mono ?_
  clear NC
  rintro e w2 ⟨rfl, b2⟩
  go_wp2
  go_ret
  exact ⟨rfl, B1.trans (b2.mono B1.size)⟩
theorem any_calls (y : LogR) (behind upTo : Int) (w : World) (base : Nat) (X : Nat → Prop) (h : LogOK w base X y) :
    Calls Tryd.prog 24 #[.pointer (some ⟨y.D, 0, none⟩), .int .i64 behind, .int .i64 upTo] w fun e w' => e = .returned (.bool (y.abs.any behind upTo)) ∧ Below w.heap.size w w' := by
  have NC := newest_calls y behind upTo 47 #[] (fun x => x.hard) (enters_of Tryd.func47 (by kernel_rfl) rfl) w base X h (fun W x hx hB => hard_calls x W)
  have HA : Hid (y.abs.any behind upTo = decide (0 < y.abs.newest behind upTo (fun x => x.hard))) := rfl
  generalize y.abs.newest behind upTo (fun x => x.hard) = N at *
  go_enter Tryd.func24, Tryd.ntmps24
  go_wp2_with fail
  refine NC.mono ?_
  clear NC
  rintro e w2 ⟨rfl, b2⟩
  go_wp2
  go_ret
  exact ⟨by rw [HA.out]; rfl, b2⟩
end Go.Proofs.YtdcjljlppeighaaDoor
