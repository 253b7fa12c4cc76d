/-
  The walk of the document's Load.
-/
import Derived.Test.YtdcjljlppeighaaDoorPurgeRefAdd
import Derived.Test.YtdcjljlppeighaaDoorPurgeLoad
namespace Go.Proofs.YtdcjljlppeighaaDoor
open Go.RowKit PurgeP

theorem good_ok {floor : Int} {ls : List Ln} (h0 : 0 ≤ floor) (h1 : floor ≤ 1099511627776) (h : goodL floor ls ls.length = true) : (⟨floor, ls⟩ : PLog).OK := by
  have hg : ∀ (i : Nat) (x : Ln), ls[i]? = some x → rightB x = true ∧ x.no = floor + i + 1 := by
    intro i x hx
    have hi := (List.getElem?_eq_some_iff.1 hx).1
    unfold goodL at h
    rw [List.all_eq_true] at h
    have := h i (List.mem_range.2 hi)
    rw [List.getD_eq_getElem?_getD, hx, Option.getD_some, Bool.and_eq_true, decide_eq_true_eq] at this
    exact this
  refine ⟨h0, h1, fun i x hx => (hg i x hx).2, fun x hx => ?_⟩
  obtain ⟨i, hi, rfl⟩ := List.getElem_of_mem hx
  exact (hg i _ (List.getElem?_eq_getElem hi)).1
/-- What Load gives back. -/
def RetRL (w : World) (floor : Int) (ls : List Ln) (e : Ending) (w' : World) : Prop :=
  Below w.heap.size w w' ∧ ((loadE floor ls ≠ 0 ∧ e = .returned (.tuple #[.pointer none, .int .i64 (loadE floor ls)])) ∨
    (loadE floor ls = 0 ∧ ∃ z, e = .returned (.tuple #[.pointer (some ⟨z.M, 0, none⟩), .int .i64 0]) ∧ RefOK w' (fun _ => False) z ∧ z.abs = ⟨floor, ls⟩))
set_option maxHeartbeats 3200000 in
set_option maxRecDepth 100000 in
theorem rload_calls (ls : List LnR) (floor : Int) (A : Option Addr) (cap : Nat) (w : World) (hI : LnsIn w A ls) (hl : ls.length ≤ 1000000) :
    Calls Tryd.prog 35 #[.slice A ls.length cap, .int .i64 floor] w (RetRL w floor (ls.map LnR.abs)) := by
  by_cases hf : floor < 0 ∨ 1099511627776 < floor
  · have HE : Hid (RetRL w floor (ls.map LnR.abs) (.returned (.tuple #[.pointer none, .int .i64 1])) w) := by
      have e : loadE floor (ls.map LnR.abs) = 1 := if_pos hf
      exact ⟨Below.refl _ _, .inl ⟨by rw [e]; decide, by rw [e]⟩⟩
    by_cases h : floor < 0
    · have d : decide (floor < 0) = true := decide_eq_true h
      clear hI hf
      go_enter Tryd.func35, Tryd.ntmps35
      go_wp2_with fail
      go_ret2
      exact HE.out
    · have d : decide (floor < 0) = false := decide_eq_false h
      have d2 : decide (1099511627776 < floor) = true := decide_eq_true (by omega)
      have MC := most_calls w
      clear hI hf
      go_enter Tryd.func35, Tryd.ntmps35
      go_wp2_with fail
      refine MC.mono ?_
      rintro e w' ⟨rfl, rfl⟩
      go_wp2_with fail
      go_ret2
      exact HE.out
  · have d : decide (floor < 0) = false := decide_eq_false (by omega)
    have d2 : decide (1099511627776 < floor) = false := decide_eq_false (by omega)
    have MC := most_calls w
    have HB : Hid (∀ w', Below w.heap.size w w' → goodL floor (ls.map LnR.abs) ls.length = false → RetRL w floor (ls.map LnR.abs) (.returned (.tuple #[.pointer none, .int .i64 2])) w') := by
      intro w' hb hg
      have e : loadE floor (ls.map LnR.abs) = 2 := by unfold loadE; rw [if_neg hf, List.length_map, hg]; rfl
      exact ⟨hb, .inl ⟨by rw [e]; decide, by rw [e]⟩⟩
    have hf0 : 0 ≤ floor := by omega
    have hf1 : floor ≤ 1099511627776 := by omega
    go_enter Tryd.func35, Tryd.ntmps35
    go_wp2_with fail
    refine MC.mono ?_
    clear MC
    rintro e w0 ⟨rfl, rfl⟩
    go_wp2_with fail
    go_loopw [6] (fun i wr => ∃ k : Nat, k ≤ ls.length ∧ i = .int .i64 (k : Int) ∧ goodL floor (ls.map LnR.abs) k = true ∧ Below w0.heap.size w0 wr) (fun i _ => ls.length - (intOf i).toNat)
    case atStart => exact ⟨0, by omega, rfl, rfl, Below.refl _ _⟩
    case round =>
      obtain ⟨k, hk, rfl, hp, bel⟩ := hrel
      by_cases hlt : k < ls.length
      · have hdec : decide ((k : Int) < (ls.length : Int)) = true := decide_eq_true (by omega)
        have hdec' : decide (k < ls.length) = true := decide_eq_true hlt
        have hltI : (k : Int) < (ls.length : Int) := by omega
        obtain ⟨x, hx⟩ : ∃ x, ls[k]? = some x := ⟨_, List.getElem?_eq_getElem hlt⟩
        have hgs := goodL_succ floor (ls.map LnR.abs) k
        rw [abs_getD ls k x hx, hp, Bool.true_and] at hgs
        have hno := fun h => goodL_not floor (ls.map LnR.abs) (k + 1) ls.length h (by omega)
        have hxk := (hI.below bel).ks x (List.mem_of_getElem? hx)
        obtain ⟨b, off, rfl, hbb, q0, q1, q2⟩ := (hI.below bel).at_ hx
        have RC := rright_calls x.no x.keys x.hard x.A x.cap wr hxk.rs hxk.cap hxk.c63
        have hab : x.abs = ⟨x.no, x.keys, x.hard⟩ := rfl
        rw [← hab] at RC
        have hs1 : IntKind.i64.wrap (floor + (k : Int)) = floor + (k : Int) := by rw [IntKind.wrap_i64]; omega
        have hs2 : IntKind.i64.wrap (floor + (k : Int) + 1) = floor + (k : Int) + 1 := by rw [IntKind.wrap_i64]; omega
        have HX : Hid (x.abs.no = x.no) := rfl
        cases hr : rightB x.abs with
        | false =>
          rw [hr] at RC hgs
          have HF := Lib.hid (fun w' hb => HB.out w' hb (hno hgs))
          clear hgs hno hx hxk hI hab hr hp
          go_wp2_with fail
          refine RC.mono ?_
          clear RC
          rintro e w5 ⟨rfl, b5⟩
          have B5 := bel.trans (b5.mono bel.size)
          go_wp2_with fail
          go_ret2
          exact HF.out _ B5
        | true =>
          rw [hr, Bool.true_and] at hgs
          rw [hr] at RC
          by_cases hn : x.no = floor + (k : Int) + 1
          · have hq : (floor + (k : Int) + 1 != floor + (k : Int) + 1) = false := by simp
            have HG : Hid (goodL floor (ls.map LnR.abs) (k + 1) = true) := by show _ = _; rw [hgs]; exact decide_eq_true hn
            rw [hn] at RC q0
            clear hgs hno hx hxk hI hab hr hp hn
            go_wp2_with fail
            refine RC.mono ?_
            clear RC
            rintro e w5 ⟨rfl, b5⟩
            have B5 := bel.trans (b5.mono bel.size)
            have q05 : w5.cell? ⟨b, off + k * 3, none⟩ = some (.int .i64 (floor + (k : Int) + 1)) := (b5.cell (p := ⟨b, off + k * 3, none⟩) hbb).trans q0
            go_wp2_with fail
            go_roundw
            case rel => exact ⟨k + 1, by omega, by go_num, HG.out, B5⟩
            case measure => simp [intOf]; omega
          · have hq : (x.no != floor + (k : Int) + 1) = true := by simp [hn]
            have HF := Lib.hid (fun w' hb => HB.out w' hb (hno (by rw [hgs]; exact decide_eq_false hn)))
            clear hgs hno hx hxk hI hab hr hp hn
            go_wp2_with fail
            refine RC.mono ?_
            clear RC
            rintro e w5 ⟨rfl, b5⟩
            have B5 := bel.trans (b5.mono bel.size)
            have q05 : w5.cell? ⟨b, off + k * 3, none⟩ = some (.int .i64 x.no) := (b5.cell (p := ⟨b, off + k * 3, none⟩) hbb).trans q0
            go_wp2_with fail
            go_ret2
            exact HF.out _ B5
      · obtain rfl : k = ls.length := by omega
        have e0 : loadE floor (ls.map LnR.abs) = 0 := by unfold loadE; rw [if_neg hf, List.length_map, hp]; rfl
        have hok := good_ok hf0 hf1 (ls := ls.map LnR.abs) (by rw [List.length_map]; exact hp)
        have hIr := hI.below bel
        clear HB hp hI hf
        go_wp2_with ((with_reducible show wpList _ _ _ (⟨some 40, _, _, _, _, _⟩ :: _) _ _); refine wpList_append_rv el_rline rfl (.tmp 38) (.tmp 39) rfl wr.heap.size (.slice (some ⟨wr.heap.size, 0, none⟩) 0 0) 0 [] rfl (own_empty wr 51 3 (Nat.le_refl _)) A ls.length cap (lC ls) rfl ?e1 (hIr.rv.alloc _) (lC_one _) ?e2 ?e3 ?e4 ?_)
        case e1 => exact lC_len _
        case e2 => unfold maxLen; omega
        case e3 => omega
        case e4 => simp
        intro v4 w4 own4 gr4 hv4
        have own5 : w4.ownsRow wr.heap.size 51 3 v4 ls.length (lC ls) := by simpa using own4
        obtain ⟨A4, c4, rfl, hn4, hc4⟩ := own_form own5
        unfold maxLen at hc4
        have b4 : Below wr.heap.size wr w4 := Below.grown ((Below.refl _ wr).alloc (Nat.le_refl _) _) gr4 (by simp) (fun j hj => by have hj : wr.heap.size = j := Option.some.inj hj; omega)
        have B4 := bel.trans (b4.mono bel.size)
        have bM : Below w4.heap.size w4 (w4.alloc (.cells #[.slice A4 ls.length c4, .int .i64 floor] 28)) := (Below.refl _ _).alloc (Nat.le_refl _) _
        have HF : Hid (RetRL w0 floor (ls.map LnR.abs) (.returned (.tuple #[.pointer (some ⟨w4.heap.size, 0, none⟩), .int .i64 0])) (w4.alloc (.cells #[.slice A4 ls.length c4, .int .i64 floor] 28))) := by
          refine ⟨B4.alloc B4.size _, .inr ⟨e0, ⟨w4.heap.size, A4, c4, floor, ls⟩, rfl, ⟨Blk.new _ _ _, hn4, by show c4 ≤ _; omega, ?_, fun x hx => ?_, fun h => h, hok⟩, rfl⟩⟩
          · exact (own_rvfN own5 (F := fun k => k = w4.heap.size ∨ False) (fun k hk => .inr (by rcases hk with rfl | hk; exact Nat.le_refl _; exact hk.elim))).below bM
          · have h1 := hIr.ks x hx
            have h2 := (h1.kept (Kept.of_below b4 _) (fun _ h => h)).kept (Kept.of_below bM _) (fun _ h => h)
            have h3 := h1.kept (Kept.of_below b4 _) (fun _ h => h)
            exact ⟨(h3.rd.mono (G := fun k => k = w4.heap.size ∨ False) (fun k hk hg => by rcases hg with rfl | hg; omega; exact hg)).below bM, h2.cap, h2.c63⟩
        clear own4 own5 gr4 hv4 hIr b4 bM hok
        go_wp2_with fail
        go_ret2
        exact HF.out
end Go.Proofs.YtdcjljlppeighaaDoor
