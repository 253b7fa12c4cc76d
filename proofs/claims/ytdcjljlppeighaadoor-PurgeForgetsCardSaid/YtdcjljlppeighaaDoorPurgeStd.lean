/-
  What stands in the world's variables all along; the library's functions as the walks want them; the text of a line.
-/
import Derived.Test.YtdcjljlppeighaaDoorPurgeLoad
import Derived.Test.YtdcjljlppeighaaDoorShelf
import Derived.Test.YtdcjljlppeighaaDoorGrow
import Derived.Lib.ItoaLen
import Derived.Lib.AtoiErrMem
import Derived.Lib.Join
namespace Go.Proofs.YtdcjljlppeighaaDoor
open Go.RowKit PurgeP

/-- What the library's functions find in their variables. -/
def Std (w : World) : Prop :=
  Lib.TabIs Tryd.prog w "internal/strconv.uint64pow10" .u64 Lib.pow10Tab ∧ (∃ tp p, w.var? Tryd.prog "strconv.ErrSyntax" = some #[.iface tp p]) ∧ (∃ tp p, w.var? Tryd.prog "strconv.ErrRange" = some #[.iface tp p]) ∧
    ∃ m, w.cell? ⟨3, 0, none⟩ = some (.int .i64 m)
theorem var_below {w w' : World} (h : Below w.heap.size w w') {n : String} {cs : Array Value} (hv : w.var? Tryd.prog n = some cs) : w'.var? Tryd.prog n = some cs := by
  unfold World.var? at hv ⊢
  obtain ⟨g, hg, hm⟩ := Option.bind_eq_some_iff.1 hv
  rw [hg, Option.bind_some]
  cases hh : w.heap[g]? with
  | none => rw [hh] at hm; cases hm
  | some o => rw [h.block g (by rw [Array.getElem?_eq_some_iff] at hh; exact hh.1)]; exact hm
theorem cell_below {w w' : World} (h : Below w.heap.size w w') {b i : Nat} {v : Value} (hc : w.cell? ⟨b, i, none⟩ = some v) : w'.cell? ⟨b, i, none⟩ = some v := by
  have hb : b < w.heap.size := by
    rcases Nat.lt_or_ge b w.heap.size with h1 | h1
    · exact h1
    · exfalso
      unfold World.cell? at hc
      simp [Array.getElem?_eq_none h1] at hc
  exact (h.cell (p := ⟨b, i, none⟩) hb).trans hc
theorem Std.below {w w' : World} (h : Std w) (g : Below w.heap.size w w') : Std w' := by
  obtain ⟨a, ⟨t1, p1, b⟩, ⟨t2, p2, c⟩, m, d⟩ := h
  exact ⟨var_below g a, ⟨t1, p1, var_below g b⟩, ⟨t2, p2, var_below g c⟩, m, cell_below g d⟩
theorem fmt_calls (n : Int) (h0 : -9223372036854775808 ≤ n) (h1 : n ≤ 9223372036854775807) (w : World) (hS : Std w) :
    Calls Tryd.prog 49 #[.int .i64 n, .int .i64 10] w fun e w' => e = .returned (.string (bstr (Lib.itoa n))) ∧ Below w.heap.size w w' := by
  refine (Tryd.strconv_FormatInt_10 n h0 h1 w hS.1).mono ?_
  rintro e w' ⟨rfl, k, os, rfl⟩
  refine ⟨rfl, ?_⟩
  exact ⟨rfl, rfl, rfl, by simp [Sort.grow], fun j hj => by simp only [Sort.grow]; rw [Array.getElem?_append_left (by simpa using hj)]; rfl⟩
theorem pint_ok (l : List UInt8) (v : Int) (h : Lib.parseIntB 64 l = .ok v) (hl : l.length ≤ 1000) (w : World) :
    Calls Tryd.prog 53 #[.string (bstr l), .int .i64 10, .int .i64 64] w fun e w' => e = .returned (.tuple #[.int .i64 v, .nilIface]) ∧ Below w.heap.size w w' := by
  have e1 : (bstr l).data.toList = l := by simp [bstr]
  refine (Tryd.strconv_ParseInt_10_at64_ok (bstr l) (by rw [bstr_size]; omega) v (by rw [e1]; exact h) w).mono ?_
  rintro e w' ⟨rfl, rfl | ⟨t, rfl⟩⟩
  · exact ⟨rfl, Below.refl _ _⟩
  · exact ⟨rfl, Lib.bytesWorld_below _ _ _⟩
theorem pint_no (l : List UInt8) (h : ∀ v, Lib.parseIntB 64 l ≠ .ok v) (hl : l.length ≤ 1000) (w : World) (hS : Std w) :
    Calls Tryd.prog 53 #[.string (bstr l), .int .i64 10, .int .i64 64] w fun e w' => ∃ v N, e = .returned (.tuple #[.int .i64 v, .iface 115 (.pointer (some ⟨N, 0, none⟩))]) ∧ Below w.heap.size w w' := by
  have e1 : (bstr l).data.toList = l := by simp [bstr]
  obtain ⟨_, ⟨t1, p1, b⟩, ⟨t2, p2, c⟩, _⟩ := hS
  rcases hp : Lib.parseIntB 64 l with v | _ | _
  · exact absurd hp (h v)
  · refine (Any.strconv_ParseInt_10_at64_syntax_var Tryd.laysC174 (bstr l) (by rw [bstr_size]; omega) (by rw [e1]; exact hp) t1 p1 w b).mono ?_
    rintro e w' ⟨N, rfl, _, _, g⟩
    exact ⟨_, N, rfl, g⟩
  · refine (Tryd.strconv_ParseInt_10_at64_range_var (bstr l) (by rw [bstr_size]; omega) (by rw [e1]; exact hp) t2 p2 w c).mono ?_
    rintro e w' ⟨N, rfl, _, _, g⟩
    exact ⟨_, N, rfl, g⟩
theorem bstr_join (ks : List Txt) : ((ks.map bstr).map (·.data.toList)) = ks := by
  rw [List.map_map]
  conv => rhs; rw [← List.map_id ks]
  apply List.map_congr_left
  intro k _
  simp [bstr]
theorem join_calls (ks : List Txt) (A : Option Addr) (cap : Nat) (w : World) (hR : RS w A ks) (hcap : ks.length ≤ cap) (h1 : 1 ≤ ks.length) (hn : ks.length ≤ 1000000) (hlen : (Lib.join ks [32]).length ≤ 1000000000) :
    Calls Tryd.prog 50 #[.slice A ks.length cap, .string ⟨#[32]⟩] w fun e w' => e = .returned (.string (bstr (Lib.join ks [32]))) ∧ Below w.heap.size w w' := by
  obtain ⟨b, off, e, hb, hc⟩ := hR (by intro e; have := congrArg List.length e; rw [cS_len] at this; simp at this; rw [this] at h1; simp at h1)
  subst e
  have := Tryd.strings_Join b off cap (ks.map bstr) ⟨#[32]⟩ w (fun j x hx => hc j _ (by unfold cS; rw [List.getElem?_map] at hx ⊢; cases hk : ks[j]? with
    | none => rw [hk] at hx; cases hx
    | some k => rw [hk] at hx; injection hx with hx; rw [← hx]; rfl)) hb (by rw [List.length_map]; omega) (by rw [List.length_map]; exact hcap) (by rw [bstr_join]; simpa using Nat.le_trans hlen (by omega))
  rw [List.length_map, bstr_join] at this
  exact this
/-- Keys, each behind a blank. -/
def bodyT (ks : List Txt) : Txt := (ks.map ([32] ++ ·)).flatten
def wordT (h : Bool) : Txt := if h then [32, 104, 97, 114, 100] else [32, 115, 111, 102, 116]
def textL (x : Ln) : Txt := Lib.itoa x.no ++ wordT x.hard ++ bodyT x.keys
def textT (x : Ln) : Txt := if rightB x then textL x else []
def textE (x : Ln) : Int := if rightB x then 0 else 1
theorem body_join {ks : List Txt} (h : 1 ≤ ks.length) : bodyT ks = 32 :: Lib.join ks [32] := by
  cases ks with
  | nil => simp at h
  | cons k ks => rw [Lib.join_cons]; simp [bodyT, Lib.joinTail]
theorem body_len (ks : List Txt) (h : ∀ k ∈ ks, k.length ≤ 200) : (bodyT ks).length ≤ 201 * ks.length := by
  induction ks with
  | nil => simp [bodyT]
  | cons k ks ih =>
    have := ih (fun x hx => h x (by simp [hx]))
    have hk := h k (by simp)
    unfold bodyT at this ⊢
    simp only [List.map_cons, List.flatten_cons, List.length_append, List.length_cons, List.length_nil]
    omega
theorem body_snoc (ks : List Txt) (k : Txt) : bodyT (ks ++ [k]) = bodyT ks ++ [32] ++ k := by simp [bodyT]
theorem growc {w : World} {b i : Nat} {v : Value} (hc : w.cell? ⟨b, i, none⟩ = some v) : ∀ r, (grow w r).cell? ⟨b, i, none⟩ = some v := fun r => cell_below (grow_below w r) hc
attribute [local go_sem] bstr_add
theorem bstr_sp (a : List UInt8) (l : Array UInt8) : bstr a ++ (⟨l⟩ : ByteArray) = bstr (a ++ l.toList) := bstr_add a l.toList
set_option maxHeartbeats 1600000 in
theorem text_calls (no : Int) (ks : List Txt) (hd : Bool) (A : Option Addr) (cap : Nat) (w : World) (hS : Std w) (hR : RS w A ks) (hcap : ks.length ≤ cap) (hc63 : cap ≤ 9223372036854775807) :
    Calls Tryd.prog 27 #[.agg #[.int .i64 no, .slice A ks.length cap, .bool hd]] w fun e w' => e = .returned (.tuple #[.string (bstr (textT ⟨no, ks, hd⟩)), .int .i64 (textE ⟨no, ks, hd⟩)]) ∧ Below w.heap.size w w' := by
  have xb := Blk.new w 54 #[.int .i64 no, .slice A ks.length cap, .bool hd]
  have B1 : Below w.heap.size w (w.alloc (.cells #[.int .i64 no, .slice A ks.length cap, .bool hd] 54)) := (Below.refl _ _).alloc (Nat.le_refl _) _
  have RC := right_calls no ks hd A cap _ (hR.below B1) hcap hc63
  go_enter Tryd.func27, Tryd.ntmps27
  go_wp2_with fail
  generalize w.alloc (.cells #[.int .i64 no, .slice A ks.length cap, .bool hd] 54) = w1 at *
  refine RC.mono ?_
  clear RC
  rintro e w2 ⟨rfl, b2⟩
  have B2 := B1.trans (b2.mono B1.size)
  have xb2 := xb.below b2 xb.lt
  cases hr : rightB ⟨no, ks, hd⟩ with
  | false =>
    have HT : Hid (textT ⟨no, ks, hd⟩ = [] ∧ textE ⟨no, ks, hd⟩ = 1) := by unfold textT textE; rw [hr]; exact ⟨rfl, rfl⟩
    clear hr
    go_wp2
    go_ret2
    exact ⟨by rw [HT.out.1, HT.out.2]; rfl, B2⟩
  | true =>
    have hri := (right_iff _).1 hr
    simp only at hri
    obtain ⟨⟨hn1, hn2, hk1, hk2⟩, hg⟩ := hri
    have hkl : ∀ k ∈ ks, k.length ≤ 200 := fun k hk => (key_len (right_key hr k hk)).2.1
    have hbl := body_len ks hkl
    have hbj := body_join hk1
    have hjl : (Lib.join ks [32]).length ≤ 10000 := by have := congrArg List.length hbj; simp at this; omega
    have hil := Lib.itoa_length_le no (by omega) (by omega)
    have HT : Hid (textT ⟨no, ks, hd⟩ = Lib.itoa no ++ wordT hd ++ (32 :: Lib.join ks [32]) ∧ textE ⟨no, ks, hd⟩ = 0) := by unfold textT textE; rw [hr, ← hbj]; exact ⟨rfl, rfl⟩
    have FC := fun r => fmt_calls no (by omega) (by omega) (grow w2 r) ((hS.below B2).below (grow_below w2 r))
    have JC := fun r => join_calls ks A cap (grow w2 r) ((hR.below B2).below (grow_below w2 r)) hcap hk1 (by omega) (by omega)
    have m0 := growc (xb2.at_ (i := 0) (v := .int .i64 no) rfl)
    have m1 := growc (xb2.at_ (i := 1) (v := .slice A ks.length cap) rfl)
    have m2 : w2.cell? ⟨w.heap.size, 2, none⟩ = some (.bool hd) := xb2.at_ rfl
    have hb0 : ∀ a : List UInt8, (bstr a).size = a.length := bstr_size
    clear hr hg hkl hbl hbj hS hR
    generalize Lib.itoa no = I at *
    generalize Lib.join ks [32] = J at *
    have z1 : ¬ 9223372036854775807 < (bstr I).size + 6 := by rw [bstr_size]; omega
    have z2 : ∀ u : List UInt8, u.length = 6 → ¬ 9223372036854775807 < (bstr (I ++ u)).size + (bstr J).size := fun u hu => by rw [bstr_size, bstr_size, List.length_append, hu]; omega
    have z3 := z2 [32, 104, 97, 114, 100, 32] rfl
    have z4 := z2 [32, 115, 111, 102, 116, 32] rfl
    have sp := bstr_sp I
    clear hb0 z2
    cases hd
    all_goals
      go_wp2
      refine wp_region_grow (by kernel_rfl) (by kernel_rfl) ?_
      repeat (first | go_big_quiet_step (fail) | go_big_quiet_step (exact calls_grow (FC _)) | go_big_quiet_step (exact calls_grow (JC _)))
      refine wpQuiet_nil ?_
      rintro w' ⟨r, rfl⟩
      go_wp2
      go_ret2
      exact ⟨by rw [HT.out.1, HT.out.2]; simp [wordT], B2.trans ((grow_below w2 r).mono B2.size)⟩
end Go.Proofs.YtdcjljlppeighaaDoor
