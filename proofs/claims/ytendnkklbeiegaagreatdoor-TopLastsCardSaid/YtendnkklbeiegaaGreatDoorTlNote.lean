/-
  Walks: a version's note.
-/
import Derived.Test.YtendnkklbeiegaaGreatDoorMAG
import Derived.Test.YtendnkklbeiegaaGreatDoorMAQ
import Derived.Test.YtendnkklbeiegaaGreatDoorMAK
import Derived.Lib.Join
import Derived.Deep.RegionHeldLaw
import Derived.Deep.Cut
import Derived.Deep.CutRange
namespace Go.Proofs.YtendnkklbeiegaaGreatDoor
open Go.RowKit StoreP

theorem joinTail_le (l : List (List UInt8)) (h : ∀ t ∈ l, t.length ≤ 4) : (Lib.joinTail [32] l).length ≤ 5 * l.length := by
  induction l with
  | nil => simp [Lib.joinTail]
  | cons a l ih =>
    have h1 := ih fun t ht => h t (by simp [ht])
    have h2 := h a (by simp)
    unfold Lib.joinTail at h1 ⊢
    simp only [List.map_cons, List.flatten_cons, List.length_append, List.length_cons, List.length_nil]
    omega
theorem join_le (l : List (List UInt8)) (h : ∀ t ∈ l, t.length ≤ 4) : (Lib.join l [32]).length ≤ 5 * l.length := by
  cases l with
  | nil => simp [Lib.join_nil]
  | cons a l =>
    rw [Lib.join_cons]
    have h1 := joinTail_le l fun t ht => h t (by simp [ht])
    have h2 := h a (by simp)
    simp only [List.length_append, List.length_cons]
    omega
theorem bstr_map (ks : List (List UInt8)) : ((ks.map bstr).map (·.data.toList)) = ks := by
  rw [List.map_map]
  conv => rhs; rw [← List.map_id ks]
  apply List.map_congr_left
  intro k _
  simp [bstr]
theorem jjoin_calls (ks : List (List UInt8)) (A : Option Addr) (cap : Nat) (w : World) (hR : RV w A (ks.map txV)) (hcap : ks.length ≤ cap) (h1 : 1 ≤ ks.length) (hn : ks.length ≤ 1000) (hk : ∀ t ∈ ks, t.length ≤ 4) :
    Calls Tryz.prog 72 #[.slice A ks.length cap, .string ⟨#[32]⟩] w fun e w' => e = .returned (.string (bstr (Lib.join ks [32]))) ∧ Below w.heap.size w w' := by
  obtain ⟨b, off, e, hb, hc⟩ := hR (by intro e; have := congrArg List.length e; simp at this; rw [this] at h1; simp at h1)
  subst e
  have hl := join_le ks hk
  have := Tryz.strings_Join b off cap (ks.map bstr) ⟨#[32]⟩ w (fun j x hx => hc j _ (by rw [List.getElem?_map] at hx ⊢; cases hk : ks[j]? with
    | none => rw [hk] at hx; cases hx
    | some k => rw [hk] at hx; injection hx with hx; rw [← hx]; rfl)) hb (by rw [List.length_map]; omega) (by rw [List.length_map]; exact hcap) (by rw [bstr_map]; simp only; exact Nat.le_trans hl (by omega))
  rw [List.length_map, bstr_map] at this
  exact this
theorem wjoin_calls (ks : List (List UInt8)) (A : Option Addr) (cap : Nat) (w : World) (hR : RV w A (ks.map txV)) (hcap : ks.length ≤ cap) (h1 : 1 ≤ ks.length) (hn : ks.length ≤ 1000) (hk : ∀ t ∈ ks, t.length ≤ 4) :
    Calls Tryz.prog 72 #[.slice A ks.length cap, .string ⟨#[32]⟩] w fun e w' => ∃ t, e = .returned (.string (bstr t)) ∧ t.length ≤ 5 * ks.length ∧ Below w.heap.size w w' := by
  refine (jjoin_calls ks A cap w hR hcap h1 hn hk).mono ?_
  rintro e w' ⟨rfl, h⟩
  exact ⟨_, rfl, join_le ks hk, h⟩
theorem strong_calls (t : ByteArray) (n : Int) (w : World) : Calls Tryz.prog 63 #[.string t, .int .i64 n] w fun e w' =>
    e = .returned (.agg #[.string t, .bool false, .int .i64 (-1), .int .i64 n, .int .i64 n, .int .i64 5, .int .i64 0, .int .i64 0, .slice none 0 0, .string ⟨#[]⟩, .bool true]) ∧ Below w.heap.size w w' := by
  have bF := Blk.new w 153 #[.string t, .bool false, .int .i64 (-1), .int .i64 n, .int .i64 n, .int .i64 5, .int .i64 0, .int .i64 0, .slice none 0 0, .string ⟨#[]⟩, .bool true]
  have B1 : Below w.heap.size w (w.alloc (.cells #[.string t, .bool false, .int .i64 (-1), .int .i64 n, .int .i64 n, .int .i64 5, .int .i64 0, .int .i64 0, .slice none 0 0, .string ⟨#[]⟩, .bool true] 153)) := (Below.refl _ _).alloc (Nat.le_refl _) _
  go_enter Tryz.func63, Tryz.ntmps63
  go_wp2
  refine bodyPost_ret (results_cell_row rfl _ _ w.heap.size 153 #[.string t, .bool false, .int .i64 (-1), .int .i64 n, .int .i64 n, .int .i64 5, .int .i64 0, .int .i64 0, .slice none 0 0, .string ⟨#[]⟩, .bool true] (0, 0) _ (by kernel_rfl) bF Tryz.underlying153 (by kernel_rfl) (by kernel_rfl)) rfl ?_
  exact ⟨rfl, B1⟩
theorem itoa_4 (n : Int) (h0 : -1 ≤ n) (h1 : n ≤ 99) : (Lib.itoa n).length ≤ 4 := by
  rcases Int.lt_or_le n 0 with h | h
  · obtain rfl : n = -1 := by omega
    have : Lib.itoa (-1) = 45 :: Lib.decDigits 1 := by unfold Lib.itoa; simp
    rw [this, Lib.decDigits]
    simp
  · obtain ⟨m, rfl⟩ := Int.eq_ofNat_of_zero_le h
    have e : Lib.itoa (m : Int) = Lib.decDigits m := by unfold Lib.itoa; simp
    show (Lib.itoa (m : Int)).length ≤ 4
    rw [e, Lib.decDigits]
    split
    · simp
    · rw [Lib.decDigits]
      split
      · simp
      · exfalso; omega
/-- So many short words, in a row of the call's own. -/
def WordsR (w0 : World) (m : Nat) (u : Value) (wx : World) : Prop := ∃ ws : List (List UInt8), ws.length = m ∧ (∀ t ∈ ws, t.length ≤ 4) ∧ wx.ownsRow w0.heap.size 9 1 u ws.length (ws.map txV) ∧ Below w0.heap.size w0 wx
def WordsK (w0 w6 : World) (v0 : Value) (m : Nat) (u : Value) (wr : World) : Prop := ∃ ws : List (List UInt8), ws.length = m ∧ (∀ t ∈ ws, t.length ≤ 4) ∧ wr.ownsRow w0.heap.size 9 1 u ws.length (ws.map txV) ∧ Below w0.heap.size w0 wr ∧ Kept (fun k => v0.ownBlock = some k) w6 wr ∧ ∀ k, u.ownBlock = some k → v0.ownBlock = some k ∨ w6.heap.size ≤ k
def entC (v n : Int) (o : List UInt8) : Array Value := #[.int .i64 v, .string (bstr o), .string (bstr vT), .bool false, .int .i64 (-1), .int .i64 n, .int .i64 n, .int .i64 5, .int .i64 0, .int .i64 0, .slice none 0 0, .string ⟨#[]⟩, .bool true, .int .i64 v, .int .i64 0, .int .i64 0, .bool false]
set_option maxRecDepth 100000 in
set_option maxHeartbeats 1600000 in
theorem etext_calls (v n : Int) (o : List UInt8) (hv : 1 ≤ v ∧ v ≤ 9) (hn : 0 ≤ n ∧ n ≤ 99) (ho : 1 ≤ o.length ∧ o.length ≤ 4) (ho0 : bA o 0 = 47) (hoc : ∀ k, k < o.length → 33 ≤ bA o k ∧ bA o k ≤ 126) (w : World) (base : Nat) (hG : Glob w base) (hb : base ≤ w.heap.size) :
    Calls Tryz.prog 62 #[.agg (entC v n o)] w fun e w' => ∃ t, e = .returned (.tuple #[.string (bstr t), .int .i64 0]) ∧ t.length ≤ 65 ∧ Below w.heap.size w w' := by
  have xb := Blk.new w 156 (entC v n o)
  have B1 : Below w.heap.size w (w.alloc (.cells (entC v n o) 156)) := (Below.refl _ _).alloc (Nat.le_refl _) _
  have yb := Blk.new (w.alloc (.cells (entC v n o) 156)) 153 (metaC n)
  have xb2 := xb.alloc (.cells (metaC n) 153)
  have B2 : Below w.heap.size w ((w.alloc (.cells (entC v n o) 156)).alloc (.cells (metaC n) 153)) := B1.alloc (by simp) _
  have s2 : ((w.alloc (.cells (entC v n o) 156)).alloc (.cells (metaC n) 153)).heap.size = w.heap.size + 2 := by simp
  rw [World.size_alloc] at yb
  have OC := fun w' => hobj_calls o ho.1 (by omega) ho0 hoc w'
  have RC := fun w' => mright_calls n hn.1 (by omega) w'
  have JC := fun w' => joins_calls n w'
  have d1 : decide (v < 1) = false := decide_eq_false (by omega)
  have d2 : decide (1099511627776 < v) = false := decide_eq_false (by omega)
  have HX : Hid (∀ w', Blk w' w.heap.size 156 (entC v n o) → Blk w' (w.heap.size + 1) 153 (metaC n) → (w'.cell? ⟨w.heap.size, 0, none⟩ = some (.int .i64 v) ∧ w'.cell? ⟨w.heap.size, 1, none⟩ = some (.string (bstr o)) ∧ w'.cell? ⟨w.heap.size, 13, none⟩ = some (.int .i64 v) ∧ w'.cell? ⟨w.heap.size, 15, none⟩ = some (.int .i64 0)) ∧
      (w'.cell? ⟨w.heap.size + 1, 0, none⟩ = some (.string (bstr vT)) ∧ w'.cell? ⟨w.heap.size + 1, 1, none⟩ = some (.bool false) ∧ w'.cell? ⟨w.heap.size + 1, 2, none⟩ = some (.int .i64 (-1)) ∧ w'.cell? ⟨w.heap.size + 1, 3, none⟩ = some (.int .i64 n) ∧ w'.cell? ⟨w.heap.size + 1, 4, none⟩ = some (.int .i64 n) ∧ w'.cell? ⟨w.heap.size + 1, 5, none⟩ = some (.int .i64 5) ∧ w'.cell? ⟨w.heap.size + 1, 6, none⟩ = some (.int .i64 0) ∧ w'.cell? ⟨w.heap.size + 1, 7, none⟩ = some (.int .i64 0) ∧ w'.cell? ⟨w.heap.size + 1, 8, none⟩ = some (.slice none 0 0) ∧ w'.cell? ⟨w.heap.size + 1, 9, none⟩ = some (.string ⟨#[]⟩) ∧ w'.cell? ⟨w.heap.size + 1, 10, none⟩ = some (.bool true))) :=
    fun w' a b => ⟨⟨a.at_ rfl, a.at_ rfl, a.at_ rfl, a.at_ rfl⟩, b.at_ rfl, b.at_ rfl, b.at_ rfl, b.at_ rfl, b.at_ rfl, b.at_ rfl, b.at_ rfl, b.at_ rfl, b.at_ rfl, b.at_ rfl, b.at_ rfl⟩
  clear xb B1
  unfold entC metaC at *
  go_enter Tryz.func62, Tryz.ntmps62
  go_upto_region 2 with fail
  revert xb2 yb B2 s2
  generalize (w.alloc (.cells #[.int .i64 v, .string (bstr o), .string (bstr vT), .bool false, .int .i64 (-1), .int .i64 n, .int .i64 n, .int .i64 5, .int .i64 0, .int .i64 0, .slice none 0 0, .string ⟨#[]⟩, .bool true, .int .i64 v, .int .i64 0, .int .i64 0, .bool false] 156)).alloc (.cells #[.string (bstr vT), .bool false, .int .i64 (-1), .int .i64 n, .int .i64 n, .int .i64 5, .int .i64 0, .int .i64 0, .slice none 0 0, .string ⟨#[]⟩, .bool true] 153) = w2
  intro yb xb2 B2 s2
  obtain ⟨⟨x0, x1, x13, x15⟩, m0, m1, m2, m3, m4, m5, m6, m7, m8, m9, m10⟩ := HX.out w2 xb2 yb
  go_wp2_with (first
    | (go_at_call 105; (with_reducible refine (OC _).mono ?_); rintro e w3 ⟨rfl, rfl⟩)
    | (go_at_call 106; (with_reducible refine (RC _).mono ?_); rintro e w3 ⟨rfl, B3⟩; have xb3 := xb2.below B3 (by omega); have yb3 := yb.below B3 (by omega); obtain ⟨⟨x30, x31, x313, x315⟩, m30, m31, m32, m33, m34, m35, m36, m37, m38, m39, m310⟩ := HX.out w3 xb3 yb3)
    | (go_at_call 107; (with_reducible refine (JC _).mono ?_); rintro e w4 ⟨rfl, B4⟩; have hz3 := B3.size; have xb4 := xb3.below B4 (by omega); have yb4 := yb3.below B4 (by omega); obtain ⟨⟨x40, x41, x413, x415⟩, m40, m41, m42, m43, m44, m45, m46, m47, m48, m49, m410⟩ := HX.out w4 xb4 yb4)
    | (go_at_call 108; (with_reducible refine (enum_calls _ (by omega) (by omega) _).mono ?_); rintro e w5 ⟨rfl, rfl⟩))
  have BW : Below w.heap.size w w4 := B2.trans ((B3.trans (B4.mono B3.size)).mono B2.size)
  have f4 := And.intro x40 x41
  have hG4 := hG.bel BW hb
  have hb4 : base ≤ w4.heap.size := Nat.le_trans hb BW.size
  have FC := fmt_calls v (by omega) (by omega) w4.drew base (hG4.bel (Below.refl _ w4).drew hb4)
  have HI := itoa_4 v (by omega) (by omega)
  obtain ⟨I, hI⟩ : ∃ I, I = Lib.itoa v := ⟨_, rfl⟩
  rw [← hI] at FC HI
  have hz4 := B4.size
  have HX4 : Hid (∀ W', Below w4.heap.size w4 W' → (W'.cell? ⟨w.heap.size, 0, none⟩ = some (.int .i64 v) ∧ W'.cell? ⟨w.heap.size, 1, none⟩ = some (.string (bstr o)) ∧ W'.cell? ⟨w.heap.size, 13, none⟩ = some (.int .i64 v) ∧ W'.cell? ⟨w.heap.size, 15, none⟩ = some (.int .i64 0)) ∧
      (W'.cell? ⟨w.heap.size + 1, 0, none⟩ = some (.string (bstr vT)) ∧ W'.cell? ⟨w.heap.size + 1, 1, none⟩ = some (.bool false) ∧ W'.cell? ⟨w.heap.size + 1, 2, none⟩ = some (.int .i64 (-1)) ∧ W'.cell? ⟨w.heap.size + 1, 3, none⟩ = some (.int .i64 n) ∧ W'.cell? ⟨w.heap.size + 1, 4, none⟩ = some (.int .i64 n) ∧ W'.cell? ⟨w.heap.size + 1, 5, none⟩ = some (.int .i64 5) ∧ W'.cell? ⟨w.heap.size + 1, 6, none⟩ = some (.int .i64 0) ∧ W'.cell? ⟨w.heap.size + 1, 7, none⟩ = some (.int .i64 0) ∧ W'.cell? ⟨w.heap.size + 1, 8, none⟩ = some (.slice none 0 0) ∧ W'.cell? ⟨w.heap.size + 1, 9, none⟩ = some (.string ⟨#[]⟩) ∧ W'.cell? ⟨w.heap.size + 1, 10, none⟩ = some (.bool true))) :=
    fun W' q => HX.out W' (xb4.below q (by omega)) (yb4.below q (by omega))
  have HE := Lib.hid (And.intro BW (And.intro hG4 hb4))
  clear hI x0 x1 x13 x15 m0 m1 m2 m3 m4 m5 m6 m7 m8 m9 m10 x30 x31 x313 x315 m30 m31 m32 m33 m34 m35 m36 m37 m38 m39 m310 x40 x41 x413 x415 m40 m41 m42 m43 m44 m45 m46 m47 m48 m49 m410 xb4 yb4 xb3 yb3 xb2 yb HX B2 B3 B4 s2 OC RC JC d1 d2 BW hG4 hb4 hG hb ho0 hoc hz4
  have HS4 : Hid (∀ W', Below w4.heap.size w4 W' → (W'.cell? ⟨w.heap.size, 0, none⟩ = some (.int .i64 v) ∧ W'.cell? ⟨w.heap.size, 1, none⟩ = some (.string (bstr o)))) := fun W' q => ⟨(HX4.out W' q).1.1, (HX4.out W' q).1.2.1⟩
  have f4d := HS4.out w4.drew (Below.refl _ w4).drew
  go_cut [5] from 47 to 52 (fun u wx => WordsR w4 2 u wx)
  case first =>
    go_region_law (go_simp; go_at_call 71; (with_reducible refine FC.mono ?_); rintro e w5 ⟨rfl, B5z⟩; have B5 : Below w4.heap.size w4 w5 := ⟨B5z.os, B5z.tape, B5z.output, B5z.size, B5z.block⟩; have f5 := HS4.out _ B5)
    all_goals
      go_wp2_with fail
      go_meet
      exact ⟨[I, o], rfl, fun t ht => by simp at ht; rcases ht with rfl | rfl <;> omega, own_cells w5 9 [txV I, txV o] 2 w5.heap.size rfl rfl B5.size (by unfold maxLen; omega), B5.alloc B5.size _⟩
  case rest =>
    obtain ⟨ws, hwl, hws, own, B5⟩ := hcut
    obtain ⟨A5, c5, rfl, _, _⟩ := own_form own
    obtain ⟨⟨_, _, y13, y15⟩, _, _, y2, y3, y4, y5, y6, y7, _, _, _⟩ := HX4.out wc B5
    have Hwl := Lib.hid hwl
    clear f4 f4d HS4 FC HI I hwl
    go_wp2_with fail
    obtain ⟨Ls, hLs⟩ : ∃ Ls : List Int, Ls = [v, 0, -1, n, n, 5, 0, 0] := ⟨_, rfl⟩
    have rvI : RV (wc.alloc (.cells #[.int .i64 v, .int .i64 0, .int .i64 (-1), .int .i64 n, .int .i64 n, .int .i64 5, .int .i64 0, .int .i64 0] 2)) (some ⟨wc.heap.size, 0, none⟩) (cI Ls) := by rw [hLs]; exact RV.new wc [.int .i64 v, .int .i64 0, .int .i64 (-1), .int .i64 n, .int .i64 n, .int .i64 5, .int .i64 0, .int .i64 0] 2 (0, 0)
    have hL8 : Ls.length = 8 := by rw [hLs]; rfl
    have hLx : ∀ x ∈ Ls, -1 ≤ x ∧ x ≤ 99 := by
      rw [hLs]
      intro x hx
      simp only [List.mem_cons, List.not_mem_nil, or_false] at hx
      rcases hx with rfl | rfl | rfl | rfl | rfl | rfl | rfl | rfl <;> omega
    have HL8 := Lib.hid hL8
    have own6 := own.alloc (.cells #[.int .i64 v, .int .i64 0, .int .i64 (-1), .int .i64 n, .int .i64 n, .int .i64 5, .int .i64 0, .int .i64 0] 2)
    have B6 := B5.alloc B5.size (.cells #[.int .i64 v, .int .i64 0, .int .i64 (-1), .int .i64 n, .int .i64 n, .int .i64 5, .int .i64 0, .int .i64 0] 2)
    have hgI : ∀ k, (Value.slice A5 ws.length c5).ownBlock = some k → k < wc.heap.size := fun k hk => (own.lt k hk).2
    have rvF : RVF (wc.alloc (.cells #[.int .i64 v, .int .i64 0, .int .i64 (-1), .int .i64 n, .int .i64 n, .int .i64 5, .int .i64 0, .int .i64 0] 2)) (fun k => (Value.slice A5 ws.length c5).ownBlock = some k) (some ⟨wc.heap.size, 0, none⟩) (cI Ls) := fun hne => by
      obtain ⟨b, off, e, h1, h2⟩ := rvI hne
      injection e with e
      injection e with e1 e2
      subst e1 e2
      exact ⟨_, _, rfl, h1, fun q => Nat.lt_irrefl _ (hgI _ q), h2⟩
    clear hLs hL8 rvI y13 y15 y2 y3 y4 y5 y6 y7 own B5
    revert own6 B6 rvF
    generalize wc.alloc (.cells #[.int .i64 v, .int .i64 0, .int .i64 (-1), .int .i64 n, .int .i64 n, .int .i64 5, .int .i64 0, .int .i64 0] 2) = w6
    intro own6 B6 rvF
    have W6 : WordsK w4 w6 (.slice A5 ws.length c5) 2 (.slice A5 ws.length c5) w6 := ⟨ws, Hwl.out, hws, own6, B6, Kept.refl _ _, fun _ hk => .inl hk⟩
    clear own6 B6 hws hgI
    go_loopw [5, 71] (fun u i wr => ∃ k : Nat, k ≤ 8 ∧ i = .int .i64 (k : Int) ∧ WordsK w4 w6 (.slice A5 ws.length c5) (2 + k) u wr) (fun _ i _ => 8 - (intOf i).toNat)
    case atStart => exact ⟨0, by omega, rfl, W6⟩
    case round =>
      clear W6
      obtain ⟨k, hk, rfl, wq, hwl, hws, own, bel, kp, kv⟩ := hrel
      obtain ⟨AQ, cQ, rfl, _, _⟩ := own_form own
      have Hq := Lib.hid hwl
      have hq100 : wq.length ≤ 100 := by omega
      clear hwl
      by_cases hlt : k < 8
      · have dec : decide ((k : Int) < 8) = true := decide_eq_true (by omega)
        have dec' : decide (k < 8) = true := decide_eq_true hlt
        have hqi : (k : Int) < 8 := by omega
        obtain ⟨x, hx⟩ : ∃ x, Ls[k]? = some x := ⟨_, List.getElem?_eq_getElem (by rw [HL8.out]; exact hlt)⟩
        obtain ⟨hx1, hx2⟩ := hLx x (List.mem_of_getElem? hx)
        have e0 : wr.cell? ⟨wc.heap.size, 0 + k, none⟩ = some (.int .i64 x) := by
          obtain ⟨b, off, e, _, h2⟩ := (rvF.kept kp).rv (by intro e; have := cI_len Ls; rw [e, HL8.out] at this; simp at this)
          injection e with e
          injection e with e1 e2
          subst e1 e2
          exact h2 k _ (by unfold cI; rw [List.getElem?_map, hx]; rfl)
        rw [Nat.zero_add] at e0
        have FC := fmt_calls x (by omega) (by omega) wr base (HE.out.2.1.bel bel HE.out.2.2)
        have HI := itoa_4 x hx1 hx2
        generalize Lib.itoa x = I at FC HI
        have HK := Lib.hid (And.intro hws (And.intro own (And.intro bel (And.intro kp kv))))
        clear hx hws own bel kp kv hlt rvF hLx
        go_wp2_with fail
        (with_reducible refine FC.mono ?_)
        rintro _ w7 ⟨rfl, B7⟩
        obtain ⟨hws, own, bel, kp, kv⟩ := HK.out
        have own7 := own_below own B7 fun k hk => (own.lt k hk).2
        have hz7 := B7.size
        have hzb := bel.size
        go_wp2_with ((with_reducible show wpList _ _ _ (⟨some 79, _, _, _, _, _⟩ :: _) _ _); refine wpList_append_rv el_st rfl (.tmp 75) (.tmp 78) rfl w4.heap.size (.slice AQ wq.length cQ) wq.length (wq.map txV) rfl (own7.alloc _) (some ⟨w7.heap.size, 0, none⟩) 1 1 [txV I] rfl rfl (RV.new w7 [txV I] 9 (0, 0)) (fun u hu => by rw [List.mem_singleton.1 hu]; rfl) ?f2 ?f3 ?f4 ?_)
        case f2 => unfold maxLen; omega
        case f3 => omega
        case f4 => simp; omega
        intro v8 w8 own8 gr8 hv8
        have B7a : Below wr.heap.size wr (w7.alloc (.cells #[.string (bstr I)] 9)) := B7.alloc B7.size _
        have HC : Hid (WordsK w4 w6 (.slice A5 ws.length c5) (wq.length + 1) v8 w8) := by
          refine ⟨wq ++ [I], by simp, fun t ht => ?_, ?_, (bel.trans (B7a.mono bel.size)).grown gr8 (by simp; omega) fun j hj => (own.lt j hj).1, (kp.trans (Kept.of_below B7a _)).grown gr8 kv, fun j hj => ?_⟩
          · rcases List.mem_append.1 ht with ht | ht
            · exact hws t ht
            · simp at ht; subst ht; exact HI
          · rw [List.length_append, List.map_append]; exact own8
          · rcases hv8 with e | e
            · exact kv j (e.symm.trans hj)
            · rw [e] at hj
              exact .inr (by have h1 := Option.some.inj hj; have := kp.size; omega)
        clear own8 gr8 hv8 own7 hws own bel kp kv HK B7 B7a e0 hz7 hzb
        go_wp2
        go_roundw
        case rel => exact ⟨k + 1, by omega, by go_num, by rw [show 2 + (k + 1) = wq.length + 1 by have := Hq.out; omega]; exact HC.out⟩
        case measure => simp [intOf]; omega
      · have dec : decide ((k : Int) < 8) = false := decide_eq_false (by omega)
        have dec' : decide (k < 8) = false := decide_eq_false hlt
        have hq10 : Hid (wq.length = 10) := by show _ = _; have := Hq.out; omega
        obtain ⟨_, y0, y1, _, _, _, _, _, _, y8, y9, y10⟩ := HX4.out wr bel
        go_upto_region 13 with fail
        have VC := vtext_calls wr.drew
        have f1 := And.intro y9 (And.intro y0 y1)
        have HS5 : Hid (∀ W', Below wr.heap.size wr W' → (W'.cell? ⟨w.heap.size + 1, 9, none⟩ = some (.string ⟨#[]⟩) ∧ W'.cell? ⟨w.heap.size + 1, 0, none⟩ = some (.string (bstr vT)) ∧ W'.cell? ⟨w.heap.size + 1, 1, none⟩ = some (.bool false))) := fun W' q => ⟨cell_bel q y9, cell_bel q y0, cell_bel q y1⟩
        have HB5 : Hid (∀ W', Below wr.heap.size wr W' → W'.ownsRow w4.heap.size 9 1 (.slice AQ wq.length cQ) wq.length (wq.map txV) ∧ w4.heap.size ≤ W'.heap.size) := fun W' q => ⟨own_below own q fun k hk => (own.lt k hk).2, Nat.le_trans bel.size q.size⟩
        have HP5 : Hid (∀ (w7 w8 : World) (v8 : Value), Below wr.heap.size wr w7 → w8.ownsRow w4.heap.size 9 1 v8 (wq.length + 3) (wq.map txV ++ [txV [107, 101, 101, 112], txV [61], txV [34, 118, 34]]) → w7.grownBy w8 (Value.slice AQ wq.length cQ).ownBlock → WordsR w4 13 v8 w8) := fun w7 w8 v8 q own8 gr8 => by
          refine ⟨wq ++ [[107, 101, 101, 112], [61], [34, 118, 34]], by have := hq10.out; simp; omega, fun t ht => ?_, ?_, (bel.trans (q.mono bel.size)).grown gr8 (Nat.le_trans bel.size q.size) fun j hj => (own.lt j hj).1⟩
          · rcases List.mem_append.1 ht with ht | ht
            · exact hws t ht
            · simp at ht
              rcases ht with rfl | rfl | rfl <;> decide
          · rw [List.length_append, List.map_append]
            exact own8
        have HX5 := Lib.hid bel
        have h61 : (⟨#[61]⟩ : ByteArray) ++ ⟨#[]⟩ = ⟨#[61]⟩ := rfl
        have hs0 : (⟨#[]⟩ : ByteArray).size = 0 := rfl
        clear y10 y8 hws own bel kp kv rvF hLx Hq dec dec' hlt
        go_cut [5] from 83 to 92 (fun u wx => WordsR w4 13 u wx)
        case first =>
          go_region_law (first
            | (go_simp; go_at_call 109; (with_reducible refine VC.mono ?_); rintro e w7 ⟨rfl, B7z⟩; have B7 : Below wr.heap.size wr w7 := ⟨B7z.os, B7z.tape, B7z.output, B7z.size, B7z.block⟩; have f7 := HS5.out _ B7)
            | (refine step_append_rv (A := some ⟨w7.heap.size, 0, none⟩) (m := 3) (c := 3) (v := .slice AQ wq.length cQ) (n := wq.length) (base := w4.heap.size) (xs := wq.map txV) (news := [txV [107, 101, 101, 112], txV [61], txV [34, 118, 34]]) el_st rfl (.tmp 83) (.tmp 91) rfl rfl (HB5.out _ (B7.alloc B7.size _)).1 rfl rfl (RV.new w7 [txV [107, 101, 101, 112], txV [61], txV [34, 118, 34]] 9 (0, 0)) (fun u hu => by simp at hu; rcases hu with rfl | rfl | rfl <;> rfl) (by unfold maxLen; omega) (by omega) (HB5.out _ (B7.alloc B7.size _)).2 ?_; intro v8 w8 own8 gr8 hv8; have HC := Lib.hid (HP5.out _ w8 _ (B7.alloc B7.size _) own8 gr8)))
          all_goals
            go_wp2_with fail
            go_meet
            exact HC.out
        case rest =>
          obtain ⟨wz, hwl, hws, own, B7⟩ := hcut
          obtain ⟨A7, c7, rfl, hc7, _⟩ := own_form own
          obtain ⟨_, _, _, _, _, _, _, _, _, y8, _, _⟩ := HX4.out wc B7
          have Hwz := Lib.hid (And.intro hwl (And.intro hws (And.intro own B7)))
          have hw13 : wz.length ≤ 100 := by omega
          have hzz := B7.size
          clear hwl hws
          go_wp2_with ((with_reducible show wpList _ _ _ (⟨some 96, _, _, _, _, _⟩ :: _) _ _); refine wpList_append_rv el_st rfl (.tmp 93) (.tmp 95) rfl w4.heap.size (.slice A7 wz.length c7) wz.length (wz.map txV) rfl own none 0 0 [] rfl rfl RV.nil (fun u hu => by cases hu) ?f2 ?f3 ?f4 ?_)
          case f2 => unfold maxLen; omega
          case f3 => omega
          case f4 => exact hzz
          intro v8 w8 own8 gr8 hv8
          have hws := Hwz.out.2.1
          have own := Hwz.out.2.2.1
          have B7 := Hwz.out.2.2.2
          have B8 : Below w4.heap.size w4 w8 := B7.grown gr8 hzz fun j hj => (own.lt j hj).1
          obtain ⟨A8, c8, hv8f, hc8, _⟩ := own_form own8
          subst hv8f
          have JC := wjoin_calls wz A8 c8 w8 (RV.of_own own8) hc8 (by have := Hwz.out.1; omega) (by omega) hws
          have HB8 := Lib.hid B8
          clear own8 gr8 hv8 own B7 hws hc8 B8
          go_wp2_with fail
          (with_reducible refine JC.mono ?_)
          rintro _ w9 ⟨t, rfl, ht, B9⟩
          have HF : Hid (t.length ≤ 65 ∧ Below w.heap.size w w9) := ⟨by have := Hwz.out.1; omega, HE.out.1.trans ((HB8.out.trans (B9.mono HB8.out.size)).mono HE.out.1.size)⟩
          clear ht B9 JC
          go_wp2_with fail
          go_ret2
          exact ⟨t, rfl, HF.out⟩
/-- 'string(rune('a' + v))' -/
theorem rune_run (v : Nat) (hv : v ≤ 9) (w : World) : (convert 21 9 (.int .i32 (97 + (v : Int)))).run Tryz.prog w = .ok (.string (bstr [UInt8.ofNat (97 + v)])) w := by
  rcases (show v = 0 ∨ v = 1 ∨ v = 2 ∨ v = 3 ∨ v = 4 ∨ v = 5 ∨ v = 6 ∨ v = 7 ∨ v = 8 ∨ v = 9 by omega) with rfl | rfl | rfl | rfl | rfl | rfl | rfl | rfl | rfl | rfl <;> kernel_rfl
theorem tnote_calls (v : Nat) (h1 : 1 ≤ v) (h4 : v ≤ 4) (w : World) (base : Nat) (hG : Glob w base) (hb : base ≤ w.heap.size) :
    Calls Tryz.prog 21 #[.int .i64 (v : Int)] w fun e w' => ∃ t, e = .returned (.string (bstr t)) ∧ t.length ≤ 65 ∧ Below w.heap.size w w' := by
  have SC := fun w' => size_top_calls v w' (by omega)
  have hsz : (sizeN v : Int) ≤ 99 := by unfold sizeN; omega
  have hr := rune_run v (by omega)
  go_enter Tryz.func21, Tryz.ntmps21
  go_wp2_with (first
    | (go_at_call 37; (with_reducible refine (SC _).mono ?_); rintro e w3 ⟨rfl, rfl⟩)
    | (go_at_call 63; (with_reducible refine (strong_calls _ _ _).mono ?_); rintro e w3 ⟨rfl, B3⟩))
  have hc : (97 : UInt8) + UInt8.ofNat v = UInt8.ofNat (97 + v) := by
    rcases (show v = 1 ∨ v = 2 ∨ v = 3 ∨ v = 4 by omega) with rfl | rfl | rfl | rfl <;> rfl
  have EC := etext_calls (v : Int) (sizeN v : Int) [47, 111, UInt8.ofNat (97 + v)] (by omega) (by unfold sizeN; omega) ⟨by simp, by simp⟩ (by rfl) (fun k hk => by
    rcases (show v = 1 ∨ v = 2 ∨ v = 3 ∨ v = 4 by omega) with rfl | rfl | rfl | rfl <;> rcases (show k = 0 ∨ k = 1 ∨ k = 2 by simp at hk; omega) with rfl | rfl | rfl <;> decide) w3 base (hG.bel B3 hb) (Nat.le_trans hb B3.size)
  unfold entC at EC
  have e1 : (⟨#[47, 111]⟩ : ByteArray) ++ bstr [97 + UInt8.ofNat v] = bstr [47, 111, UInt8.ofNat (97 + v)] := by rw [hc]; rfl
  rw [e1]
  refine Calls.mono EC ?_
  rintro _ w4 ⟨t, rfl, ht, B4⟩
  have HF : Hid (t.length ≤ 65 ∧ Below w.heap.size w w4) := ⟨ht, B3.trans (B4.mono B3.size)⟩
  clear ht B3 B4 EC hc e1 SC hr
  go_wp2_with fail
  go_ret
  exact ⟨t, rfl, HF.out⟩
end Go.Proofs.YtendnkklbeiegaaGreatDoor
