/-
  Walks: the document's Last and Any.
-/
import Derived.Test.YtdcjljlppeighaaDoorPurgeRefLog
namespace Go.Proofs.YtdcjljlppeighaaDoor
open Go.RowKit PurgeP

def hitX (behind upTo : Int) (x : Ln) : Bool := decide (behind < x.no) && decide (x.no ≤ upTo) && x.hard
def hitB (ls : List Ln) (behind upTo : Int) : Bool := ls.any (hitX behind upTo)
theorem hit_snoc {ls : List Ln} {k : Nat} {x : Ln} (hx : ls[k]? = some x) (behind upTo : Int) : hitB (ls.take (k + 1)) behind upTo = (hitB (ls.take k) behind upTo || hitX behind upTo x) := by
  obtain ⟨hlt, rfl⟩ := List.getElem?_eq_some_iff.1 hx
  unfold hitB
  rw [List.take_succ_eq_append_getElem hlt, List.any_append]
  simp
theorem hit_not {behind upTo : Int} {x : LnR} (h : x.hard = false) : hitX behind upTo x.abs = false := by unfold hitX; rw [show x.abs.hard = x.hard from rfl, h, Bool.and_false]
theorem hit_not2 {behind upTo : Int} {x : LnR} (h : ¬ x.no ≤ upTo) : hitX behind upTo x.abs = false := by unfold hitX; rw [show x.abs.no = x.no from rfl, decide_eq_false h, Bool.and_false, Bool.false_and]
theorem hit_not1 {behind upTo : Int} {x : LnR} (h : ¬ behind < x.no) : hitX behind upTo x.abs = false := by unfold hitX; rw [show x.abs.no = x.no from rfl, decide_eq_false h, Bool.false_and, Bool.false_and]
theorem lastG_pos (ls : List Ln) (behind upTo : Int) (p : Ln → Bool) (n : Int) (hno : ∀ x ∈ ls, 1 ≤ x.no) (hn : 0 < n) : 0 < lastG ls behind upTo p n := by
  rcases lastG_mem ls behind upTo p n with e | ⟨x, hx, _, _, _, e⟩
  · rw [e]; exact hn
  · rw [e]; have := hno x hx; omega
theorem lastG_hit (ls : List Ln) (behind upTo : Int) (n : Int) (hno : ∀ x ∈ ls, 1 ≤ x.no) (hn : 0 ≤ n) : decide (0 < lastG ls behind upTo (fun x => x.hard) n) = (hitB ls behind upTo || decide (0 < n)) := by
  induction ls generalizing n with
  | nil => rfl
  | cons x ls ih =>
    have h0 := hno x (by simp)
    have h1 : ∀ y ∈ ls, 1 ≤ y.no := fun y hy => hno y (by simp [hy])
    rw [lastG_cons]
    have e : hitB (x :: ls) behind upTo = (hitX behind upTo x || hitB ls behind upTo) := rfl
    rw [e]
    by_cases hh : behind < x.no ∧ x.no ≤ upTo ∧ x.hard = true
    · rw [if_pos hh, ih _ h1 (by omega)]
      have e1 : hitX behind upTo x = true := by unfold hitX; simp [hh.1, hh.2.1, hh.2.2]
      rw [e1, decide_eq_true (by omega : 0 < x.no)]
      simp
    · rw [if_neg hh, ih _ h1 hn]
      have e1 : hitX behind upTo x = false := by
        rw [Bool.eq_false_iff]
        intro hx
        unfold hitX at hx
        simp only [Bool.and_eq_true, decide_eq_true_eq] at hx
        exact hh ⟨hx.1.1, hx.1.2, hx.2⟩
      rw [e1, Bool.false_or]
theorem under_nn (f behind upTo : Int) : 0 ≤ under f behind upTo := by
  unfold under
  split
  · omega
  · rename_i h; omega
theorem any_hit {l : PLog} (h : l.OK) (behind upTo : Int) : l.any behind upTo = (hitB l.ls behind upTo || decide (0 < under l.floor behind upTo)) :=
  lastG_hit l.ls behind upTo _ (fun x hx => ((right_iff x).1 (h.rt x hx)).1.1) (under_nn _ _ _)
theorem any_yes {l : PLog} (h : l.OK) {x : Ln} (hx : x ∈ l.ls) {behind upTo : Int} (h1 : behind < x.no) (h2 : x.no ≤ upTo) (h3 : x.hard = true) : l.any behind upTo = true := by
  rw [any_hit h]
  have : hitB l.ls behind upTo = true := List.any_eq_true.2 ⟨x, hx, by unfold hitX; simp [h1, h2, h3]⟩
  rw [this, Bool.true_or]
set_option maxHeartbeats 1600000 in
theorem rlast_calls (z : RefR) (keys : List Txt) (n : Nat) (hn : keys.length = n) (behind upTo : Int) (hard : Bool) (A : Option Addr) (cap : Nat) (w : World) (F : Nat → Prop) (h : RefOK w F z) (hR : RS w A keys) (hl : n ≤ 9223372036854775807) :
    Calls Tryd.prog 23 #[.pointer (some ⟨z.M, 0, none⟩), .slice A n cap, .int .i64 behind, .int .i64 upTo, .bool hard] w (RetNum (z.abs.last keys behind upTo hard) w) := by
  have UC := runder_calls z behind upTo w F h
  have HL : Hid (z.abs.last keys behind upTo hard = lastG (z.abs.ls.take z.ls.length) behind upTo (meant keys hard) (under z.floor behind upTo)) := by show _ = _; rw [← RefR.abs_len, List.take_length]; rfl
  have hle := h.len_le
  generalize under z.floor behind upTo = u at *
  go_enter Tryd.func23, Tryd.ntmps23
  go_wp2_with fail
  refine UC.mono ?_
  clear UC
  rintro e w0 ⟨rfl, rfl⟩
  go_wp2_with fail
  go_loopw [11, 12] (fun v i wr => ∃ k : Nat, k ≤ z.ls.length ∧ i = .int .i64 (k : Int) ∧ v = .int .i64 (lastG (z.abs.ls.take k) behind upTo (meant keys hard) u) ∧ Below w.heap.size w wr) (fun _ i _ => z.ls.length - (intOf i).toNat)
  case atStart => exact ⟨0, by omega, rfl, rfl, Below.refl _ _⟩
  case round =>
    obtain ⟨k, hk, rfl, rfl, bel⟩ := hrel
    have hr := h.below bel
    have c0 : wr.cell? ⟨z.M, 0, none⟩ = some (.slice z.A z.ls.length z.cap) := hr.bk.at_ rfl
    by_cases hlt : k < z.ls.length
    · have hdec : decide ((k : Int) < (z.ls.length : Int)) = true := decide_eq_true (by omega)
      have hdec' : decide (k < z.ls.length) = true := decide_eq_true hlt
      have hltI : (k : Int) < (z.ls.length : Int) := by omega
      obtain ⟨x, hx⟩ : ∃ x, z.ls[k]? = some x := ⟨_, List.getElem?_eq_getElem hlt⟩
      have hxa : z.abs.ls[k]? = some x.abs := by unfold RefR.abs; rw [List.getElem?_map, hx]; rfl
      have hxk := hr.ks x (List.mem_of_getElem? hx)
      obtain ⟨b, off, hA, hb, q0, q1, q2⟩ := hr.line_at hx
      rw [hA] at c0
      have HN := Lib.hid (scan_snoc hxa behind upTo u (meant keys hard))
      have SC := fun o => rsome_calls x.keys keys x.keys.length rfl n hn x.A x.cap A cap (wr.alloc o) (hxk.rs.alloc o) (by have := hxk.cap; have := hxk.c63; omega) ((hR.below bel).alloc o) hl
      have HME : Hid (meant keys hard x.abs = ((x.hard || !hard) && anyK x.keys keys)) := rfl
      have HXN : Hid (x.abs.no = x.no) := rfl
      generalize lastG (z.abs.ls.take k) behind upTo (meant keys hard) u = v at *
      clear hx hxa hxk hr h hR hA HL
      by_cases h1 : behind < x.no
      · have d1 : decide (behind < x.no) = true := decide_eq_true h1
        by_cases h2 : x.no ≤ upTo
        · have d2 : decide (x.no ≤ upTo) = true := decide_eq_true h2
          cases h3 : anyK x.keys keys with
          | true =>
            rw [h3] at SC
            cases h4 : x.hard with
            | true =>
              rw [h4] at q2
              have HV : Hid (lastG (z.abs.ls.take (k + 1)) behind upTo (meant keys hard) u = x.no) := by show _ = _; rw [HN.out, if_pos ⟨h1, h2, by rw [HME.out, h3, h4]; rfl⟩, HXN.out]
              clear HN
              go_wp2_with fail
              refine (SC _).mono ?_
              rintro e w5 ⟨rfl, rfl⟩
              go_wp2_with fail
              go_roundw
              case rel => exact ⟨k + 1, by omega, by go_num, by rw [HV.out], bel.alloc bel.size _⟩
              case measure => simp [intOf]; omega
            | false =>
              rw [h4] at q2
              cases h5 : hard with
              | true =>
                subst h5
                have HV : Hid (lastG (z.abs.ls.take (k + 1)) behind upTo (meant keys true) u = v) := by show _ = _; rw [HN.out, if_neg (fun hh => by have := hh.2.2; rw [HME.out, h3, h4] at this; cases this)]
                clear HN
                go_wp2_with fail
                refine (SC _).mono ?_
                rintro e w5 ⟨rfl, rfl⟩
                go_wp2_with fail
                go_roundw
                case rel => exact ⟨k + 1, by omega, by go_num, by rw [HV.out], bel.alloc bel.size _⟩
                case measure => simp [intOf]; omega
              | false =>
                subst h5
                have HV : Hid (lastG (z.abs.ls.take (k + 1)) behind upTo (meant keys false) u = x.no) := by show _ = _; rw [HN.out, if_pos ⟨h1, h2, by rw [HME.out, h3, h4]; rfl⟩, HXN.out]
                clear HN
                go_wp2_with fail
                refine (SC _).mono ?_
                rintro e w5 ⟨rfl, rfl⟩
                go_wp2_with fail
                go_roundw
                case rel => exact ⟨k + 1, by omega, by go_num, by rw [HV.out], bel.alloc bel.size _⟩
                case measure => simp [intOf]; omega
          | false =>
            rw [h3] at SC
            have HV : Hid (lastG (z.abs.ls.take (k + 1)) behind upTo (meant keys hard) u = v) := by show _ = _; rw [HN.out, if_neg (fun hh => by have := hh.2.2; rw [HME.out, h3, Bool.and_false] at this; cases this)]
            clear HN
            go_wp2_with fail
            refine (SC _).mono ?_
            rintro e w5 ⟨rfl, rfl⟩
            go_wp2_with fail
            go_roundw
            case rel => exact ⟨k + 1, by omega, by go_num, by rw [HV.out], bel.alloc bel.size _⟩
            case measure => simp [intOf]; omega
        · have d2 : decide (x.no ≤ upTo) = false := decide_eq_false h2
          have HV : Hid (lastG (z.abs.ls.take (k + 1)) behind upTo (meant keys hard) u = v) := by show _ = _; rw [HN.out, if_neg (fun hh => h2 hh.2.1)]
          clear HN
          go_wp2_with fail
          go_roundw
          case rel => exact ⟨k + 1, by omega, by go_num, by rw [HV.out], bel.alloc bel.size _⟩
          case measure => simp [intOf]; omega
      · have d1 : decide (behind < x.no) = false := decide_eq_false h1
        have HV : Hid (lastG (z.abs.ls.take (k + 1)) behind upTo (meant keys hard) u = v) := by show _ = _; rw [HN.out, if_neg (fun hh => h1 hh.1)]
        clear HN
        go_wp2_with fail
        go_roundw
        case rel => exact ⟨k + 1, by omega, by go_num, by rw [HV.out], bel.alloc bel.size _⟩
        case measure => simp [intOf]; omega
    · obtain rfl : k = z.ls.length := by omega
      have HF := Lib.hid (HL.out)
      generalize lastG (z.abs.ls.take z.ls.length) behind upTo (meant keys hard) u = v at *
      clear HL hr
      go_wp2_with fail
      go_ret
      exact ⟨by rw [HF.out]; rfl, bel⟩
set_option maxHeartbeats 1600000 in
theorem rany_calls (z : RefR) (behind upTo : Int) (w : World) (F : Nat → Prop) (h : RefOK w F z) :
    Calls Tryd.prog 25 #[.pointer (some ⟨z.M, 0, none⟩), .int .i64 behind, .int .i64 upTo] w fun e w' => e = .returned (.bool (z.abs.any behind upTo)) ∧ w = w' := by
  have UC := runder_calls z behind upTo w F h
  have HL : Hid (z.abs.any behind upTo = (hitB (z.abs.ls.take z.ls.length) behind upTo || decide (0 < under z.floor behind upTo))) := by show _ = _; rw [← RefR.abs_len, List.take_length]; exact any_hit h.ok behind upTo
  have HA : Hid (∀ (k : Nat) (x : LnR), z.ls[k]? = some x → behind < x.no → x.no ≤ upTo → x.hard = true → z.abs.any behind upTo = true) := fun k x hx h1 h2 h3 => any_yes h.ok (x := x.abs) (List.mem_map.2 ⟨x, List.mem_of_getElem? hx, rfl⟩) h1 h2 h3
  have hle := h.len_le
  generalize under z.floor behind upTo = u at *
  go_enter Tryd.func25, Tryd.ntmps25
  go_wp2_with fail
  go_loop [7] (fun i => ∃ k : Nat, k ≤ z.ls.length ∧ i = .int .i64 (k : Int) ∧ hitB (z.abs.ls.take k) behind upTo = false) (fun i => z.ls.length - (intOf i).toNat)
  case atStart => exact ⟨0, by omega, rfl, rfl⟩
  case round =>
    obtain ⟨k, hk, rfl, hp⟩ := hrel
    have c0 : w.cell? ⟨z.M, 0, none⟩ = some (.slice z.A z.ls.length z.cap) := h.bk.at_ rfl
    by_cases hlt : k < z.ls.length
    · have hdec : decide ((k : Int) < (z.ls.length : Int)) = true := decide_eq_true (by omega)
      have hdec' : decide (k < z.ls.length) = true := decide_eq_true hlt
      have hltI : (k : Int) < (z.ls.length : Int) := by omega
      obtain ⟨x, hx⟩ : ∃ x, z.ls[k]? = some x := ⟨_, List.getElem?_eq_getElem hlt⟩
      have hxa : z.abs.ls[k]? = some x.abs := by unfold RefR.abs; rw [List.getElem?_map, hx]; rfl
      obtain ⟨b, off, hA, hb, q0, q1, q2⟩ := h.line_at hx
      rw [hA] at c0
      have HN := Lib.hid (hit_snoc hxa behind upTo)
      rw [hp, Bool.false_or] at HN
      have HX := Lib.hid (HA.out k x hx)
      clear hx hxa h hA HL HA hp UC q1
      by_cases h1 : behind < x.no
      · have d1 : decide (behind < x.no) = true := decide_eq_true h1
        by_cases h2 : x.no ≤ upTo
        · have d2 : decide (x.no ≤ upTo) = true := decide_eq_true h2
          cases h3 : x.hard with
          | true =>
            rw [h3] at q2
            have HF := Lib.hid (HX.out h1 h2 h3)
            clear HX HN
            go_wp2_with fail
            go_ret
            exact ⟨by rw [HF.out]; rfl, rfl⟩
          | false =>
            rw [h3] at q2
            have HV : Hid (hitB (z.abs.ls.take (k + 1)) behind upTo = false) := by show _ = _; rw [HN.out]; exact hit_not h3
            clear HX HN
            go_wp2_with fail
            go_round
            case rel => exact ⟨k + 1, by omega, by go_num, HV.out⟩
            case measure => simp [intOf]; omega
        · have d2 : decide (x.no ≤ upTo) = false := decide_eq_false h2
          have HV : Hid (hitB (z.abs.ls.take (k + 1)) behind upTo = false) := by show _ = _; rw [HN.out]; exact hit_not2 h2
          clear HX HN
          go_wp2_with fail
          go_round
          case rel => exact ⟨k + 1, by omega, by go_num, HV.out⟩
          case measure => simp [intOf]; omega
      · have d1 : decide (behind < x.no) = false := decide_eq_false h1
        have HV : Hid (hitB (z.abs.ls.take (k + 1)) behind upTo = false) := by show _ = _; rw [HN.out]; exact hit_not1 h1
        clear HX HN
        go_wp2_with fail
        go_round
        case rel => exact ⟨k + 1, by omega, by go_num, HV.out⟩
        case measure => simp [intOf]; omega
    · obtain rfl : k = z.ls.length := by omega
      have HF : Hid (z.abs.any behind upTo = decide (0 < u)) := by show _ = _; rw [HL.out, hp, Bool.false_or]
      clear HL hp HA h
      go_wp2_with fail
      refine UC.mono ?_
      rintro e w1 ⟨rfl, rfl⟩
      go_wp2_with fail
      go_ret
      exact ⟨by rw [HF.out]; rfl, rfl⟩
end Go.Proofs.YtdcjljlppeighaaDoor
