/-
  How a map of free sectors lies in memory; the walks of its ours and meets.
-/
import Derived.Test.YtendnkklbeiegaaGreatDoorMAF
import Derived.Test.YtendnkklbeiegaaGreatDoorMAE
import Derived.Test.YtendnkklbeiegaaGreatDoorMem3
import Derived.Test.YtendnkklbeiegaaGreatDoorStep
import Derived.BigQuiet
import Derived.Deep.QuietTactic
namespace Go.Proofs.YtendnkklbeiegaaGreatDoor
open Go.RowKit ExtP

theorem info_ex : (Tryz.prog.info? 110).map (fun i => (i.zero, i.size, i.bytes)) = some (some (.agg #[.int .i64 0, .int .i64 0]), 2, 16) := by kernel_rfl
theorem el_ex : El Tryz.prog 170 110 (.agg #[.int .i64 0, .int .i64 0]) 2 16 := ⟨info_parts info_ex, Tryz.underlying170, rfl, by decide⟩
def exC (x : Ex) : List Value := [.int .i64 (x.1 : Int), .int .i64 (x.2 : Int)]
/-- The cells of a row of stretches. -/
def eC (fs : List Ex) : List Value := fs.flatMap exC
theorem eC_len (l : List Ex) : (eC l).length = l.length * 2 := by
  induction l with
  | nil => rfl
  | cons a l ih => unfold eC at ih ⊢; rw [List.flatMap_cons, List.length_append, ih, List.length_cons, show (exC a).length = 2 from rfl]; omega
theorem eC_append (a b : List Ex) : eC (a ++ b) = eC a ++ eC b := by simp [eC]
theorem eC_get (l : List Ex) (k i : Nat) (hi : i < 2) : (eC l)[k * 2 + i]? = (l[k]?).bind fun a => (exC a)[i]? := by
  induction l generalizing k with
  | nil => simp [eC]
  | cons a l ih =>
    rw [show eC (a :: l) = exC a ++ eC l by simp [eC]]
    cases k with
    | zero => rw [List.getElem?_append_left (by show 0 * 2 + i < 2; omega)]; simp
    | succ k =>
      rw [List.getElem?_append_right (by show 2 ≤ (k + 1) * 2 + i; omega), show (k + 1) * 2 + i - (exC a).length = k * 2 + i by show (k + 1) * 2 + i - 2 = _; omega, ih k]
      simp
theorem eC_one (l : List Ex) : ∀ u ∈ eC l, u.oneCell' = true := by
  intro u hu
  simp only [eC, List.mem_flatMap] at hu
  obtain ⟨a, _, hu⟩ := hu
  simp only [exC, List.mem_cons, List.not_mem_nil, or_false] at hu
  rcases hu with rfl | rfl <;> rfl
theorem eC_take (l : List Ex) (k : Nat) : eC (l.take k) = (eC l).take (k * 2) := by
  induction l generalizing k with
  | nil => simp [eC]
  | cons a l ih =>
    cases k with
    | zero => simp [eC]
    | succ k =>
      rw [List.take_succ_cons, show eC (a :: l.take k) = exC a ++ eC (l.take k) by simp [eC], show eC (a :: l) = exC a ++ eC l by simp [eC], ih, List.take_append, List.take_of_length_le (show (exC a).length ≤ (k + 1) * 2 by show 2 ≤ _; omega),
        show (k + 1) * 2 - (exC a).length = k * 2 by show (k + 1) * 2 - 2 = _; omega]
theorem eC_drop (l : List Ex) (k : Nat) : eC (l.drop k) = (eC l).drop (k * 2) := by
  have h1 := congrArg eC (List.take_append_drop k l)
  rw [eC_append, eC_take] at h1
  have h2 := List.take_append_drop (k * 2) (eC l)
  exact List.append_cancel_left (h1.trans h2.symm)
/-- Where a map of free sectors lies. -/
structure XMap where
  M : Nat
  v : Value
  fs : List Ex
def XMap.foot (x : XMap) (k : Nat) : Prop := k = x.M ∨ x.v.ownBlock = some k
/-- It lies so: lo to hi are its sectors, Fr are free. -/
structure ExtOK (w : World) (base lo hi : Nat) (x : XMap) (Fr : Nat → Prop) : Prop where
  mk_ : Blk w x.M 172 #[.int .i64 (lo : Int), .int .i64 ((hi - lo : Nat) : Int), x.v]
  row : w.ownsRow base 110 2 x.v x.fs.length (eC x.fs)
  good : GoodX lo hi x.fs
  fr : ∀ s, FreeX x.fs s ↔ Fr s
  bM : base ≤ x.M
  ne : x.v.ownBlock ≠ some x.M
  lh : lo ≤ hi
  h6 : hi ≤ 1000000
def NextX (w : World) (base lo hi : Nat) (x : XMap) (Fr : Nat → Prop) (w' : World) : Prop :=
  ∃ x', ExtOK w' base lo hi x' Fr ∧ x'.M = x.M ∧ Kept x.foot w w' ∧ ∀ k, x'.foot k → x.foot k ∨ w.heap.size ≤ k
section
variable {w w' : World} {base lo hi : Nat} {x : XMap} {Fr : Nat → Prop}
theorem ExtOK.foot_lt (h : ExtOK w base lo hi x Fr) {k : Nat} (hk : x.foot k) : base ≤ k ∧ k < w.heap.size := by
  rcases hk with rfl | hk
  · exact ⟨h.bM, h.mk_.lt⟩
  · exact h.row.lt k hk
theorem ExtOK.kept (h : ExtOK w base lo hi x Fr) {F : Nat → Prop} (hk : Kept F w w') (hF : ∀ k, x.foot k → ¬ F k) : ExtOK w' base lo hi x Fr :=
  { h with mk_ := (hk.block _ h.mk_.lt (hF _ (.inl rfl))).trans h.mk_, row := own_frame h.row fun k hv => hk.block k (h.row.lt k hv).2 (hF k (.inr hv)) }
theorem ExtOK.below (h : ExtOK w base lo hi x Fr) (b : Below w.heap.size w w') : ExtOK w' base lo hi x Fr := h.kept (Kept.of_below b fun _ => False) fun _ _ => id
theorem ExtOK.len (h : ExtOK w base lo hi x Fr) : x.fs.length ≤ 1000000 := by have := h.good.len; have := h.h6; omega
theorem ExtOK.form (h : ExtOK w base lo hi x Fr) : ∃ A c, x.v = .slice A x.fs.length c ∧ x.fs.length ≤ c ∧ c ≤ maxLen := own_form h.row
/-- A stretch's cells. -/
theorem ExtOK.at_ (h : ExtOK w base lo hi x Fr) {k : Nat} {f : Ex} (hk : x.fs[k]? = some f) : ∃ g c, x.v = .slice (some ⟨g, 0, none⟩) x.fs.length c ∧ g < w.heap.size ∧ w.cell? ⟨g, k * 2, none⟩ = some (.int .i64 (f.1 : Int)) ∧ w.cell? ⟨g, k * 2 + 1, none⟩ = some (.int .i64 (f.2 : Int)) := by
  have hlt := (List.getElem?_eq_some_iff.1 hk).1
  rcases h.row.2 with ⟨_, h0⟩ | ⟨g, cap, cur, e, hb, hh, hnc, _⟩
  · omega
  · have e0 := eC_get x.fs k 0 (by omega)
    have e1 := eC_get x.fs k 1 (by omega)
    rw [hk] at e0 e1
    have c0 := h.row.cells (g := g) (by rw [e]; rfl) (k * 2 + 0) _ e0
    have c1 := h.row.cells (g := g) (by rw [e]; rfl) (k * 2 + 1) _ e1
    rw [add_zero_off] at c0 c1
    exact ⟨g, cap, e, lt_of_block hh, c0, c1⟩
end
theorem drewN_bel (w : World) (q : Nat) : Below w.heap.size w (w.drewN q) := ⟨rfl, rfl, rfl, Nat.le_refl _, fun _ _ => rfl⟩
theorem bel_drewN {B : Nat} {a w : World} (h : Below B a w) (q : Nat) : Below B a (w.drewN q) := ⟨h.os, h.tape, h.output, h.size, h.block⟩
theorem xours_calls (x : XMap) (a lo hi : Nat) (Fr : Nat → Prop) (w : World) (base : Nat) (h : ExtOK w base lo hi x Fr) (h1 : lo ≤ a) (h2 : a < hi) :
    Calls Tryz.prog 83 #[.pointer (some ⟨x.M, 0, none⟩), .agg #[.int .i64 (a : Int), .int .i64 1]] w fun e w' => e = .returned (.bool true) ∧ Below w.heap.size w w' := by
  have h6 := h.h6
  have gk := h.mk_
  have B1 : Below w.heap.size w (w.alloc (.cells #[.int .i64 (a : Int), .int .i64 1] 110)) := (Below.refl _ _).alloc (Nat.le_refl _) _
  have bk := Blk.new w 110 #[.int .i64 (a : Int), .int .i64 1]
  have gk1 := gk.alloc (.cells #[.int .i64 (a : Int), .int .i64 1] 110)
  have b0 := bk.at_ (i := 0) rfl
  have b1 := bk.at_ (i := 1) rfl
  have m0 := gk1.at_ (i := 0) rfl
  have m1 := gk1.at_ (i := 1) rfl
  have d1 : decide (1 ≤ ((hi - lo : Nat) : Int)) = true := decide_eq_true (by omega)
  have d2 : decide ((lo : Int) ≤ (a : Int)) = true := decide_eq_true (by omega)
  have d2' : decide (lo ≤ a) = true := decide_eq_true h1
  have s1 : IntKind.i64.wrap ((a : Int) - (lo : Int)) = (a : Int) - (lo : Int) := by rw [IntKind.wrap_i64]; omega
  have s2 : IntKind.i64.wrap (((hi - lo : Nat) : Int) - 1) = ((hi - lo : Nat) : Int) - 1 := by rw [IntKind.wrap_i64]; omega
  have d3 : decide ((a : Int) - (lo : Int) ≤ ((hi - lo : Nat) : Int) - 1) = true := decide_eq_true (by omega)
  have d4 : decide (1 ≤ hi - lo) = true := decide_eq_true (by omega)
  clear h gk gk1 bk
  go_enter Tryz.func83, Tryz.ntmps83
  go_wp2_with fail
  go_quiet (fail)
  go_wp2
  go_ret
  exact ⟨rfl, B1.os, B1.tape, B1.output, B1.size, B1.block⟩
theorem xmeets_calls (x : XMap) (a lo hi : Nat) (Fr : Nat → Prop) (w : World) (base : Nat) (h : ExtOK w base lo hi x Fr) (_ha : a ≤ 1000000) :
    Calls Tryz.prog 84 #[.pointer (some ⟨x.M, 0, none⟩), .int .i64 (a : Int)] w fun e w' => ∃ i : Nat, e = .returned (.int .i64 (i : Int)) ∧ MeetsX x.fs a i ∧ Below w.heap.size w w' := by
  have hn := h.len
  obtain ⟨A, c, hv, _, _⟩ := h.form
  have gk := h.mk_
  rw [hv] at gk
  have m2 := gk.at_ (i := 2) rfl
  go_enter Tryz.func84, Tryz.ntmps84
  go_wp2_with fail
  go_quiet (fail)
  go_wp2_with fail
  go_loopw [5, 6] (fun l u wr => ∃ i j : Nat, i ≤ j ∧ j ≤ x.fs.length ∧ l = .int .i64 (i : Int) ∧ u = .int .i64 (j : Int) ∧ Below w.heap.size w wr ∧ (∀ k y, k < i → x.fs[k]? = some y → y.1 + y.2 ≤ a) ∧ ∀ k y, j ≤ k → x.fs[k]? = some y → a < y.1 + y.2) (fun l u _ => (intOf u).toNat - (intOf l).toNat)
  case atStart => exact ⟨0, x.fs.length, Nat.zero_le _, Nat.le_refl _, rfl, rfl, drewN_bel _ _, fun k y hk => by omega, fun k y hk hy => by have := (List.getElem?_eq_some_iff.1 hy).1; omega⟩
  case round =>
    obtain ⟨i, j, hij, hj, rfl, rfl, bel, hl, hu⟩ := hrel
    have hr := h.below bel
    have m2 := hr.mk_.at_ (i := 2) rfl
    by_cases hlt : i < j
    · have dec : decide ((i : Int) < (j : Int)) = true := decide_eq_true (by omega)
      have dec' : decide (i < j) = true := decide_eq_true hlt
      obtain ⟨m, hm⟩ : ∃ m, m = i + (j - i) / 2 := ⟨_, rfl⟩
      have s1 : IntKind.i64.wrap ((j : Int) - (i : Int)) = ((j - i : Nat) : Int) := by rw [IntKind.wrap_i64]; omega
      have s2 : IntKind.i64.wrap ((i : Int) + ((j - i : Nat) : Int) / 2) = (m : Int) := by rw [IntKind.wrap_i64]; omega
      have s2' : (i : Int) + ((j - i : Nat) : Int) / 2 = (m : Int) := by omega
      have hmi : i ≤ m := by omega
      have hmj : m < j := by omega
      clear hm
      obtain ⟨f, hf⟩ : ∃ f, x.fs[m]? = some f := ⟨_, List.getElem?_eq_getElem (by omega)⟩
      obtain ⟨g, c', hv', hg, c0, c1⟩ := hr.at_ hf
      have hfe := h.good.hi_ f (List.mem_of_getElem? hf)
      have h6 := h.h6
      have s3 : IntKind.i64.wrap ((f.1 : Int) + (f.2 : Int)) = ((f.1 + f.2 : Nat) : Int) := by rw [IntKind.wrap_i64]; omega
      have hb1 : (m : Int) < (x.fs.length : Int) := by omega
      have s4 : IntKind.i64.wrap ((m : Int) + 1) = ((m + 1 : Nat) : Int) := by rw [IntKind.wrap_i64]; omega
      rw [hv] at hv' m2
      injection hv' with e1 _ e3
      subst e1 e3
      by_cases hgt : a < f.1 + f.2
      · have d1 : decide ((a : Int) < ((f.1 + f.2 : Nat) : Int)) = true := decide_eq_true (by omega)
        have d1' : decide (a < f.1 + f.2) = true := decide_eq_true hgt
        have HU : Hid (∀ k y, m ≤ k → x.fs[k]? = some y → a < y.1 + y.2) := fun k y hk hy => by
          rcases Nat.lt_or_ge m k with h1 | h1
          · have := h.good.rise hf hy h1; omega
          · obtain rfl : m = k := by omega
            obtain rfl := Option.some.inj (hf.symm.trans hy)
            exact hgt
        have HL := Lib.hid hl
        clear h hr hl hu hf
        go_wp2_with fail
        go_quiet (fail)
        go_wp2
        go_roundw
        case rel => exact ⟨i, m, hmi, by omega, rfl, rfl, bel_drewN bel _, HL.out, HU.out⟩
        case measure => simp [intOf]; omega
      · have d1 : decide ((a : Int) < ((f.1 + f.2 : Nat) : Int)) = false := decide_eq_false (by omega)
        have d1' : decide (a < f.1 + f.2) = false := decide_eq_false hgt
        have HL : Hid (∀ k y, k < m + 1 → x.fs[k]? = some y → y.1 + y.2 ≤ a) := fun k y hk hy => by
          rcases Nat.lt_or_ge k m with h1 | h1
          · have := h.good.rise hy hf h1; have := h.good.pos f (List.mem_of_getElem? hf); omega
          · obtain rfl : m = k := by omega
            obtain rfl := Option.some.inj (hf.symm.trans hy)
            omega
        have HU := Lib.hid hu
        clear h hr hl hu hf
        go_wp2_with fail
        go_quiet (fail)
        go_wp2
        go_roundw
        case rel => exact ⟨m + 1, j, by omega, hj, rfl, rfl, bel_drewN bel _, HL.out, HU.out⟩
        case measure => simp [intOf]; omega
    · obtain rfl : i = j := by omega
      have dec : decide ((i : Int) < (i : Int)) = false := decide_eq_false (by omega)
      have dec' : decide (i < i) = false := decide_eq_false (by omega)
      have HM : Hid (MeetsX x.fs a i) := ⟨hj, hl, hu⟩
      clear h hr hl hu
      go_wp2
      go_ret
      exact ⟨i, rfl, HM.out, bel⟩
end Go.Proofs.YtendnkklbeiegaaGreatDoor
namespace Go.Proofs.YtendnkklbeiegaaGreatDoor
open Go.RowKit ExtP

theorem ex_elem {w : World} {A : Option Addr} {l : List Ex} (h : RV w A (eC l)) {k : Nat} {x : Ex} (hk : l[k]? = some x) : ∃ g off, A = some ⟨g, off, none⟩ ∧ g < w.heap.size ∧ w.cell? ⟨g, off + k * 2, none⟩ = some (.int .i64 (x.1 : Int)) ∧ w.cell? ⟨g, off + k * 2 + 1, none⟩ = some (.int .i64 (x.2 : Int)) := by
  have hlt := (List.getElem?_eq_some_iff.1 hk).1
  have e0 := eC_get l k 0 (by omega)
  have e1 := eC_get l k 1 (by omega)
  rw [hk] at e0 e1
  obtain ⟨g, off, rfl, hg, hc⟩ := h (by intro e; have := eC_len l; rw [e] at this; simp at this; omega)
  exact ⟨g, off, rfl, hg, hc _ _ e0, by rw [Nat.add_assoc]; exact hc _ _ e1⟩
theorem named_calls (l : List Ex) (n : Ex) (A : Option Addr) (c : Nat) (w : World) (hR : RV w A (eC l)) (hl : l.length ≤ 1000000) :
    Calls Tryz.prog 10 #[.slice A l.length c, .agg #[.int .i64 (n.1 : Int), .int .i64 (n.2 : Int)]] w fun e w' => e = .returned (.bool (decide (n ∈ l))) ∧ Below w.heap.size w w' := by
  have B1 : Below w.heap.size w (w.alloc (.cells #[.int .i64 (n.1 : Int), .int .i64 (n.2 : Int)] 40)) := (Below.refl _ _).alloc (Nat.le_refl _) _
  have bk := Blk.new w 40 #[.int .i64 (n.1 : Int), .int .i64 (n.2 : Int)]
  go_enter Tryz.func10, Tryz.ntmps10
  go_wp2_with fail
  go_loopw [9] (fun i wr => ∃ k : Nat, k ≤ l.length ∧ i = .int .i64 (k : Int) ∧ Below (w.heap.size + 1) (w.alloc (.cells #[.int .i64 (n.1 : Int), .int .i64 (n.2 : Int)] 40)) wr ∧ ∀ j x, j < k → l[j]? = some x → x ≠ n) (fun i _ => l.length - (intOf i).toNat)
  case atStart => exact ⟨0, Nat.zero_le _, rfl, Below.refl _ _, fun j x hj => by omega⟩
  case round =>
    obtain ⟨k, hk, rfl, bel, hno⟩ := hrel
    have belw : Below w.heap.size w wr := B1.trans (bel.mono (by omega))
    have bkr := bk.below bel (by omega)
    have a0 := bkr.at_ (i := 0) rfl
    have a1 := bkr.at_ (i := 1) rfl
    by_cases hlt : k < l.length
    · have dec : decide ((k : Int) < (l.length : Int)) = true := decide_eq_true (by omega)
      have dec' : decide (k < l.length) = true := decide_eq_true hlt
      have hq : (k : Int) < (l.length : Int) := by omega
      obtain ⟨x, hx⟩ : ∃ x, l[k]? = some x := ⟨_, List.getElem?_eq_getElem hlt⟩
      obtain ⟨g, off, rfl, hg, x0, x1⟩ := ex_elem (hR.below belw) hx
      have b2 : Below wr.heap.size wr (wr.alloc (.cells #[.int .i64 (x.1 : Int), .int .i64 (x.2 : Int)] 40)) := (Below.refl _ _).alloc (Nat.le_refl _) _
      have xk := Blk.new wr 40 #[.int .i64 (x.1 : Int), .int .i64 (x.2 : Int)]
      have bk2 := bkr.alloc (.cells #[.int .i64 (x.1 : Int), .int .i64 (x.2 : Int)] 40)
      have c0 := xk.at_ (i := 0) rfl
      have c1 := xk.at_ (i := 1) rfl
      have d0 := bk2.at_ (i := 0) rfl
      have d1 := bk2.at_ (i := 1) rfl
      have s1 : IntKind.i64.wrap ((k : Int) + 1) = ((k + 1 : Nat) : Int) := by rw [IntKind.wrap_i64]; omega
      have BW := Lib.hid (belw.trans (b2.mono belw.size))
      have BR := Lib.hid (bel.trans (b2.mono (by have := bel.size; simp at this; omega)))
      have HN := Lib.hid hno
      have HX := Lib.hid hx
      clear hno hx bk bkr xk bk2 bel belw b2 hR B1
      by_cases e : x = n
      · subst e
        have HD : Hid (decide (x ∈ l) = true) := decide_eq_true (List.mem_of_getElem? HX.out)
        go_wp2
        go_ret
        exact ⟨by rw [HD.out]; rfl, BW.out⟩
      · have HS : Hid (∀ j y, j < k + 1 → l[j]? = some y → y ≠ n) := fun j y hj hy => by
          rcases Nat.lt_or_ge j k with h1 | h1
          · exact HN.out j y h1 hy
          · obtain rfl : j = k := by omega
            obtain rfl := Option.some.inj (hy.symm.trans HX.out)
            exact e
        by_cases e1 : x.1 = n.1
        · have e2 : ¬ x.2 = n.2 := fun e2 => e (Prod.ext e1 e2)
          clear e
          obtain ⟨xa, xb⟩ := x
          simp only at e1 e2
          subst e1
          have e3 : ¬ (xb : Int) = (n.2 : Int) := by omega
          go_wp2
          go_roundw
          case rel => exact ⟨k + 1, hlt, rfl, BR.out, HS.out⟩
          case measure => simp [intOf]; omega
        · clear e
          have e3 : ¬ (x.1 : Int) = (n.1 : Int) := by omega
          go_wp2
          go_roundw
          case rel => exact ⟨k + 1, hlt, rfl, BR.out, HS.out⟩
          case measure => simp [intOf]; omega
    · obtain rfl : k = l.length := by omega
      have dec : decide ((l.length : Int) < (l.length : Int)) = false := decide_eq_false (by omega)
      have dec' : decide (l.length < l.length) = false := decide_eq_false (by omega)
      have HD : Hid (decide (n ∈ l) = false) := decide_eq_false fun hm => by
        obtain ⟨j, hj⟩ := List.getElem?_of_mem hm
        exact hno j n (List.getElem?_eq_some_iff.1 hj).1 hj rfl
      clear hno
      go_wp2
      go_ret
      exact ⟨by rw [HD.out]; rfl, belw⟩
end Go.Proofs.YtendnkklbeiegaaGreatDoor
