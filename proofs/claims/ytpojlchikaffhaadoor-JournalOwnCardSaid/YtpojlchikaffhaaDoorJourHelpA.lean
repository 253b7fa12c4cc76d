/-
  The walks of the statements' of, back, same.
-/
import Derived.Test.YtpojlchikaffhaaDoorJourOpenB
namespace Go.Proofs.YtpojlchikaffhaaDoor
open Go.RowKit DiskP SumP PageP JourP

theorem lof_calls (k : UInt8) (A : Option Addr) (n c : Nat) (w : World) :
    Calls Tryd.prog 27 #[.agg #[.int .u8 (k.toNat : Int), .slice A n c]] w fun e w' => e = .returned (.agg #[.int .u8 (k.toNat : Int), .slice A n c]) ∧ Below w.heap.size w w' := by
  go_enter Tryd.func27, Tryd.ntmps27
  go_wp2
  exact bodyPost_ret (v := .agg #[.int .u8 (k.toNat : Int), .slice A n c]) (by simp [results, Tryd.results27, go_sem]) rfl ⟨rfl, ((Below.refl _ _).alloc (Nat.le_refl _) _).alloc (by simp) _⟩
/-- Records as the reference has them, in a row of their own. -/
def RetBack (w : World) (xs : List RecR) (n : Nat) (e : Ending) (w' : World) : Prop := ∃ A c, e = .returned (.slice A n c) ∧ w'.ownsRow w.heap.size 38 2 (.slice A n c) n (rC xs) ∧ Below w.heap.size w w'
def BackR (w : World) (xs : List RecR) (k : Nat) (v : Value) (wr : World) : Prop := wr.ownsRow w.heap.size 38 2 v k (rC (xs.take k)) ∧ Below w.heap.size w wr
set_option maxHeartbeats 1600000 in
theorem back_calls (xs : List RecR) (n : Nat) (hn : xs.length = n) (A : Option Addr) (cap : Nat) (w : World) (hR : RV w A (rC xs)) (hl : n ≤ 1000000) :
    Calls Tryd.prog 26 #[.slice A n cap] w (RetBack w xs n) := by
  subst hn
  go_enter Tryd.func26, Tryd.ntmps26
  go_wp2
  go_loopw [3, 8] (fun v i wr => ∃ k : Nat, k ≤ xs.length ∧ i = .int .i64 (k : Int) ∧ BackR w xs k v wr) (fun _ i _ => xs.length - (intOf i).toNat)
  case atStart => exact ⟨0, by omega, rfl, World.ownsRow_nil _ _ _ _, Below.refl _ _⟩
  case round =>
    obtain ⟨k, hk, rfl, own, bel⟩ := hrel
    obtain ⟨AR, cR, rfl, _, _⟩ := own_form own
    by_cases hlt : k < xs.length
    · have dec : decide ((k : Int) < (xs.length : Int)) = true := decide_eq_true (by omega)
      have dec' : decide (k < xs.length) = true := decide_eq_true hlt
      obtain ⟨x, hxk⟩ : ∃ x, xs[k]? = some x := ⟨_, List.getElem?_eq_getElem hlt⟩
      obtain ⟨g, off, rfl, hgl, x0, x1⟩ := rec_elem (hR.below bel) hxk
      have HT : Hid (rC (xs.take (k + 1)) = rC (xs.take k) ++ [.int .u8 (x.kind.toNat : Int), .slice x.A x.body.length x.cap]) := by
        obtain ⟨hltm, hgm⟩ := List.getElem?_eq_some_iff.1 hxk
        show _ = _
        rw [List.take_succ_eq_append_getElem hltm, hgm, rC_append]
        simp [rC, RecR.cells]
      have hbs := bel.size
      obtain ⟨xk, xA, xc, xb⟩ := x
      simp only at x0 x1 HT
      clear hxk hR
      have b8 : Below wr.heap.size wr (wr.alloc (.cells #[.int .u8 (xk.toNat : Int), .slice xA xb.length xc] 40)) := (Below.refl _ _).alloc (Nat.le_refl _) _
      have own8 := own.alloc (.cells #[.int .u8 (xk.toNat : Int), .slice xA xb.length xc] 40)
      have bel8 := bel.trans (b8.mono bel.size)
      have hz8 : (wr.alloc (.cells #[.int .u8 (xk.toNat : Int), .slice xA xb.length xc] 40)).heap.size = wr.heap.size + 1 := by simp
      have HZ := Lib.hid hz8
      have HBL := Lib.hid bel8
      clear hz8 bel8 b8
      go_wp2_with ((with_reducible show wpList _ _ _ (⟨some 19, _, _, _, _, _⟩ :: _) _ _); refine wpList_append_rv el_xrec rfl (.tmp 12) (.tmp 18) rfl w.heap.size (.slice AR k cR) k (rC (xs.take k)) rfl (own8.alloc _) (some ⟨wr.heap.size + 1, 0, none⟩) 1 1 [.int .u8 (xk.toNat : Int), .slice xA xb.length xc] rfl rfl ?f1 (rec_one _ _ _ _) ?f2 ?f3 ?f4 ?_)
      case f1 => exact rv_at (wr.alloc (.cells #[.int .u8 (xk.toNat : Int), .slice xA xb.length xc] 40)) [.int .u8 (xk.toNat : Int), .slice xA xb.length xc] 38 _ HZ.out
      case f2 => unfold maxLen; omega
      case f3 => omega
      case f4 => simp; omega
      intro v9 w9 own9 gr9 hv9
      have HC : Hid (BackR w xs (k + 1) v9 w9) := by
        refine ⟨by rw [HT.out]; exact own9, (HBL.out.alloc HBL.out.size _).grown gr9 (by simp; omega) (fun j hj => ?_)⟩
        exact ((own8.alloc (.cells #[.int .u8 (xk.toNat : Int), .slice xA xb.length xc] 38)).lt j hj).1
      clear own9 gr9 hv9 own8 own
      go_wp2
      go_roundw
      case rel => exact ⟨k + 1, by omega, by go_num, HC.out⟩
      case measure => simp [intOf]; omega
    · obtain rfl : k = xs.length := by omega
      have dec : decide ((xs.length : Int) < (xs.length : Int)) = false := decide_eq_false (by omega)
      have dec' : decide (xs.length < xs.length) = false := decide_eq_false (by omega)
      rw [List.take_length] at own
      have HF : Hid (RetBack w xs xs.length (.returned (.slice AR xs.length cR)) wr) := ⟨AR, cR, rfl, own, bel⟩
      clear own
      go_wp2
      go_ret
      exact HF.out
/-- All records, as a slice of so many. -/
def RetAllN (w : World) (rs : List Rec) (n : Nat) (e : Ending) (w' : World) : Prop := ∃ A c xs, e = .returned (.slice A n c) ∧ xs.length = n ∧ xs.map RecR.abs = rs ∧ RowR w' w.heap.size (fun k => k < w.heap.size) (.slice A n c) xs ∧ Below w.heap.size w w'
theorem jall_n (j : JL) (p : PJ) (n : Nat) (hn : p.rs.length = n) (w : World) (base : Nat) (h : JLog w base j p) :
    Calls Tryd.prog 14 #[.pointer (some ⟨j.G, 0, none⟩)] w (RetAllN w p.rs n) := by
  refine (jall_calls j p w base h).mono ?_
  rintro e w' ⟨v, xs, rfl, h1, h2, h3, h4⟩
  have hl := h.len
  have h5 := h3.own
  rw [h1, hl, hn] at h5
  obtain ⟨A, c, rfl, _, _⟩ := own_form h5
  exact ⟨A, c, xs, rfl, by omega, by rw [h2, h.frs], h3, h4⟩
end Go.Proofs.YtpojlchikaffhaaDoor
