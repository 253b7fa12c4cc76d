/-
  Walk: a store behind what is put into it.
-/
import Derived.Test.YtendnkklbeiegaaGreatDoorMAT
import Derived.Test.YtendnkklbeiegaaGreatDoorMAR
import Derived.Test.YtendnkklbeiegaaGreatDoorTlNote
import Derived.Test.YtendnkklbeiegaaGreatDoorTlPurge
import Derived.Test.YtendnkklbeiegaaGreatDoorMAO
import Derived.Deep.RegionLaw
namespace Go.Proofs.YtendnkklbeiegaaGreatDoor
open Go.RowKit Go.Maps StoreP JourP DiskP PageP

theorem el_nm : El Tryz.prog 32 40 (.agg #[.int .i64 0, .int .i64 0]) 2 16 := ⟨info_parts info_nm, Tryz.underlying32, rfl, by decide⟩
/-- What is put: its kind, its version, its number, its fill. -/
structure KeepA where
  kind : Nat
  ver : Nat
  no : Nat
  fill : Nat
def KeepA.cells (x : KeepA) : List Value := [.int .u8 (x.kind : Int), .int .u8 (x.ver : Int), .int .u8 (x.no : Int), .int .u8 (x.fill : Int)]
def kC (l : List KeepA) : List Value := l.flatMap KeepA.cells
theorem kC_get (l : List KeepA) (k i : Nat) (hi : i < 4) : (kC l)[k * 4 + i]? = (l[k]?).bind fun a => a.cells[i]? := by
  induction l generalizing k with
  | nil => simp [kC]
  | cons a l ih =>
    rw [show kC (a :: l) = a.cells ++ kC l by simp [kC]]
    cases k with
    | zero => rw [List.getElem?_append_left (by show 0 * 4 + i < 4; omega)]; simp
    | succ k =>
      rw [List.getElem?_append_right (by show 4 ≤ (k + 1) * 4 + i; omega), show (k + 1) * 4 + i - a.cells.length = k * 4 + i by show (k + 1) * 4 + i - 4 = _; omega, ih k]
      simp
def KeepA.ok (x : KeepA) : Prop := x.kind ≤ 255 ∧ x.ver ≤ 255 ∧ x.no ≤ 255 ∧ x.fill ≤ 255
theorem keep_elem {w : World} {A : Option Addr} {l : List KeepA} (h : RV w A (kC l)) {k : Nat} {x : KeepA} (hk : l[k]? = some x) : ∃ g off, A = some ⟨g, off, none⟩ ∧ g < w.heap.size ∧ w.cell? ⟨g, off + k * 4, none⟩ = some (.int .u8 (x.kind : Int)) ∧ w.cell? ⟨g, off + k * 4 + 1, none⟩ = some (.int .u8 (x.ver : Int)) ∧ w.cell? ⟨g, off + k * 4 + 2, none⟩ = some (.int .u8 (x.no : Int)) ∧ w.cell? ⟨g, off + k * 4 + 3, none⟩ = some (.int .u8 (x.fill : Int)) := by
  have e0 := kC_get l k 0 (by omega)
  have e1 := kC_get l k 1 (by omega)
  have e2 := kC_get l k 2 (by omega)
  have e3 := kC_get l k 3 (by omega)
  rw [hk] at e0 e1 e2 e3
  obtain ⟨g, off, rfl, hg, hc⟩ := h (by intro e; rw [e] at e0; simp [KeepA.cells] at e0)
  exact ⟨g, off, rfl, hg, hc _ _ e0, by rw [Nat.add_assoc]; exact hc _ _ e1, by rw [Nat.add_assoc]; exact hc _ _ e2, by rw [Nat.add_assoc]; exact hc _ _ e3⟩
/-- What is known when so many things are put. -/
def KeepW (w0 : World) (base K D B i : Nat) (wr : World) : Prop := ∃ (σ : StoL) (s : SP) (l : List StoreP.Act) (lasts : Nat) (v : KR → Value) (L : KR → List Nm) (mk : Nat), KeepM w0 wr base K D B σ s v L mk ∧ KeepP i s l lasts (L .s) (L .g) (L .l) ∧ mk ≤ i
theorem KeepW.skip {w0 wr w' : World} {base K D B i lasts mk : Nat} {σ : StoL} {s : SP} {v : KR → Value} {L : KR → List Nm} {l : List StoreP.Act} (hM : KeepM w0 wr base K D B σ s v L mk) (hP : KeepP i s l lasts (L .s) (L .g) (L .l)) (hk : mk ≤ i) (b : Below wr.heap.size wr w') : KeepW w0 base K D B (i + 1) w' :=
  ⟨σ, s, l, lasts, v, L, mk, hM.below b, hP.mono (Nat.le_succ i), by omega⟩
/-- What keep tells. -/
def RetKeep (w : World) (n : Nat) (e : Ending) (w' : World) : Prop := ∃ K D B, e = .returned (.tuple #[.pointer (some ⟨K, 0, none⟩), .bool true]) ∧ KeepW w w.heap.size K D B n w'
set_option maxRecDepth 100000 in
set_option maxHeartbeats 3200000 in
theorem keep_calls (l0 : List KeepA) (A0 : Option Addr) (c0 : Nat) (hl0 : l0.length ≤ 40) (hok0 : ∀ x ∈ l0, x.ok) (w : World) (hG : Glob w w.heap.size) (hR : RV w A0 (kC l0)) :
    Calls Tryz.prog 6 #[.slice A0 l0.length c0] w (RetKeep w l0.length) := by
  have NC := fun w' => new_calls 512 128 w' (by decide) (by decide) (by decide) (by decide)
  rw [show ((512 : Nat) : Int) = 512 from rfl, show ((128 : Nat) : Int) = 128 from rfl] at NC
  go_enter Tryz.func6, Tryz.ntmps6
  go_wp2_with (go_at_call 19; (with_reducible refine (NC _).mono ?_); rintro e w1 ⟨y, rfl, hd, ha, hln, hs, B1⟩)
  have hG1 : Glob w1 w.heap.size := hG.below B1
  have OC := sopen_fresh y w1 w.heap.size hd ha hln hs hG1 B1.size
  (with_reducible refine OC.mono ?_)
  clear OC NC
  rintro _ w2 ⟨σF, sF, rfl, h2, hP0, hrs, hD, K2, f2⟩
  have B2 : Below w.heap.size w w2 := B1.trans (K2.below (fun k _ hk => (hd.foot_lt hk).1) B1.size)
  have HK : Hid (KeepW w w.heap.size w2.heap.size y.D σF.B 0 (w2.alloc (.cells #[.pointer (some ⟨y.D, 0, none⟩), .pointer (some ⟨σF.B, 0, none⟩), .slice none 0 0, .slice none 0 0, .int .i64 0, .slice none 0 0] 34))) := by
    have b3 : Below w2.heap.size w2 (w2.alloc (.cells #[.pointer (some ⟨y.D, 0, none⟩), .pointer (some ⟨σF.B, 0, none⟩), .slice none 0 0, .slice none 0 0, .int .i64 0, .slice none 0 0] 34)) := (Below.refl _ _).alloc (Nat.le_refl _) _
    refine ⟨σF, { sF with X := fun k => k = w2.heap.size }, [], 0, fun _ => .slice none 0 0, fun _ => [], 0, ⟨Blk.new w2 _ _, ?_, rfl, hD, fun q => World.ownsRow_nil _ _ _ _, fun q => Nat.lt_irrefl _ (h2.all_lt q), fun q k hk => by simp [Value.ownBlock] at hk, fun q q' k hk => by simp [Value.ownBlock] at hk, rfl, fun q k hk => by simp [Value.ownBlock] at hk, B2.trans (b3.mono B2.size), B2.size, Nat.le_refl _⟩, hP0.rex _, Nat.le_refl _⟩
    exact (h2.below b3).rex (fun z hz => by rw [hrs] at hz; cases hz) (fun k hk => by rw [hk]; simp)
  clear h2 hP0 hrs hD K2 f2 hd ha hln hs B1 hG1 B2
  go_wp2_with fail
  revert HK
  generalize w2.alloc (.cells #[.pointer (some ⟨y.D, 0, none⟩), .pointer (some ⟨σF.B, 0, none⟩), .slice none 0 0, .slice none 0 0, .int .i64 0, .slice none 0 0] 34) = w3
  intro HK
  generalize w2.heap.size = K at *
  generalize y.D = D at *
  generalize σF.B = B at *
  go_loopw [43] (fun i wr => ∃ k : Nat, k ≤ l0.length ∧ i = .int .i64 (k : Int) ∧ KeepW w w.heap.size K D B k wr) (fun i _ => l0.length - (intOf i).toNat)
  case atStart => exact ⟨0, Nat.zero_le _, rfl, HK.out⟩
  case round =>
    clear HK
    obtain ⟨k, hk, rfl, σ, s, l, lasts, v, L, mk, hM, hP, hmk⟩ := hrel
    by_cases hlt : k < l0.length
    · have dec : decide ((k : Int) < (l0.length : Int)) = true := decide_eq_true (by omega)
      have dec' : decide (k < l0.length) = true := decide_eq_true hlt
      have hqi : (k : Int) < (l0.length : Int) := by omega
      obtain ⟨x, hx⟩ : ∃ x, l0[k]? = some x := ⟨_, List.getElem?_eq_getElem hlt⟩
      have hxo := hok0 x (List.mem_of_getElem? hx)
      obtain ⟨g, off, rfl, hg, y0, y1, y2, y3⟩ := keep_elem (hR.below hM.bel) hx
      have hi40 : k < 40 := by omega
      obtain ⟨kd, vr, n0, fl⟩ := x
      simp only at y0 y1 y2 y3
      obtain ⟨ho1, ho2, ho3, ho4⟩ := hxo
      simp only at ho1 ho2 ho3 ho4
      have xk := Blk.new wr 70 #[.int .u8 (kd : Int), .int .u8 (vr : Int), .int .u8 (n0 : Int), .int .u8 (fl : Int)]
      have B4 : Below wr.heap.size wr (wr.alloc (.cells #[.int .u8 (kd : Int), .int .u8 (vr : Int), .int .u8 (n0 : Int), .int .u8 (fl : Int)] 70)) := (Below.refl _ _).alloc (Nat.le_refl _) _
      have hM4 := hM.below B4
      have Hlt := Lib.hid hlt
      clear hx hM hR hok0 hlt hl0
      go_upto_region 11 with fail
      clear y0 y1 y2 y3 dec dec' hqi
      revert xk B4 hM4
      generalize wr.alloc (.cells #[.int .u8 (kd : Int), .int .u8 (vr : Int), .int .u8 (n0 : Int), .int .u8 (fl : Int)] 70) = w4
      intro xk B4 hM4
      have f0 : w4.cell? ⟨wr.heap.size, 0, none⟩ = some (.int .u8 (kd : Int)) := xk.at_ rfl
      have f1 : w4.cell? ⟨wr.heap.size, 1, none⟩ = some (.int .u8 (vr : Int)) := xk.at_ rfl
      have f2 : w4.cell? ⟨wr.heap.size, 2, none⟩ = some (.int .u8 (n0 : Int)) := xk.at_ rfl
      obtain ⟨vn, hvn⟩ : ∃ vn, vn = vr % 4 + 1 := ⟨_, rfl⟩
      obtain ⟨no, hno⟩ : ∃ no, no = n0 % 8 := ⟨_, rfl⟩
      have ev : (vr : Int) % 4 + 1 = (vn : Int) := by omega
      have en : (n0 : Int) % 8 = (no : Int) := by omega
      have h7 : ok7 (vn, no) := ⟨by show vn ≤ 4; omega, by show no ≤ 7; omega⟩
      have hv1 : 1 ≤ vn := by omega
      have hv4 : vn ≤ 4 := by omega
      have hn7 : no ≤ 7 := by omega
      have hM4' := Lib.hid hM4
      clear hvn hno xk hM4 B4
      go_cut [11, 12] from 47 to 55 (fun a b wx => a = .int .i64 (vn : Int) ∧ b = .int .i64 (no : Int) ∧ Below w4.heap.size w4 wx)
      case first =>
        go_quiet (fail)
        go_wp2_with fail
        go_meet
        exact ⟨rfl, rfl, bel_drewN (Below.refl _ w4) _⟩
      case rest =>
        obtain ⟨rfl, rfl, B5⟩ := hcut
        have hM5 := hM4'.out.below B5
        have c0 := cell_bel B5 f0
        have hG5 : Glob wc w.heap.size := hG.below hM5.bel
        clear f0 f1 f2 hM4' B5 ev en
        have hkd : kd % 5 < 5 := Nat.mod_lt _ (by decide)
        have ek0 : (kd : Int) % 5 = ((kd % 5 : Nat) : Int) := by omega
        generalize kd % 5 = q at hkd ek0
        rcases (show q = 0 ∨ q = 1 ∨ q = 2 ∨ q = 3 ∨ q = 4 by omega) with rfl | rfl | rfl | rfl | rfl
        · have ek : (kd : Int) % 5 = 0 := ek0
          clear ek0 hkd
          have NC := tnote_calls vn hv1 (by omega) wc w.heap.size hG5 hM5.bel.size
          have KN : Hid (∀ (t : List UInt8) (w' : World), t.length ≤ 65 → Below wc.heap.size wc w' → Calls Tryz.prog 20 #[.pointer (some ⟨B, 0, none⟩), .int .i64 (vn : Int), .string (bstr t)] w' fun e w'' => e = .returned (.int .i64 0) ∧ KeepW w w.heap.size K D B (k + 1) w'') := fun t w' ht b => by
            refine (keep_note (hM5.below b) hP hi40 hG vn t (by omega) (by omega)).mono ?_
            rintro e w'' ⟨rfl, σ', s', l', lasts', h1, h2⟩
            exact ⟨rfl, σ', s', l', lasts', v, L, mk, h1, h2, by omega⟩
          clear hM5 hP hG5
          go_wp2_with (first
            | (go_at_call 21; (with_reducible refine NC.mono ?_); rintro e w6 ⟨t, rfl, ht, B6⟩; have KN6 := KN.out t w6 ht B6)
            | (go_at_call 20; (with_reducible refine KN6.mono ?_); rintro e w7 ⟨rfl, hW⟩))
          go_roundw
          case rel => exact ⟨k + 1, by have := Hlt.out; omega, by go_num, hW⟩
          case measure => have := Hlt.out; simp [intOf]; omega
        · have ek : (kd : Int) % 5 = 1 := ek0
          clear ek0 hkd
          have hbl := byF_len (vn, no)
          have BC : Calls Tryz.prog 12 #[.int .i64 (vn : Int), .int .i64 (no : Int)] wc (RetBy wc (byF (vn, no))) := bytes_top_calls vn no wc (by omega) (by omega)
          by_cases h0 : (byF (vn, no)).length = 0
          · have HW : Hid (∀ w', Below wc.heap.size wc w' → KeepW w w.heap.size K D B (k + 1) w') := fun w' b => KeepW.skip hM5 hP hmk b
            have d1 : decide (0 < ((byF (vn, no)).length : Int)) = false := decide_eq_false (by omega)
            have d2 : decide (0 < (byF (vn, no)).length) = false := decide_eq_false (by omega)
            clear hM5 hP hG5 h0 hbl
            generalize byF (vn, no) = bs at *
            go_wp2_with (go_at_call 12; (with_reducible refine BC.mono ?_); rintro e w6 ⟨A6, c6, rfl, own6, B6⟩; have hW := HW.out w6 B6)
            go_roundw
            case rel => exact ⟨k + 1, by have := Hlt.out; omega, by go_num, hW⟩
            case measure => have := Hlt.out; simp [intOf]; omega
          have d1 : decide (0 < ((byF (vn, no)).length : Int)) = true := decide_eq_true (by omega)
          have d2 : decide (0 < (byF (vn, no)).length) = true := decide_eq_true (by omega)
          cases hx : s.st.sl (vn, no) with
          | some x =>
            have PC : Hid (∀ (A : Option Addr) (c : Nat) (w' : World), Below wc.heap.size wc w' → Calls Tryz.prog 22 #[.pointer (some ⟨B, 0, none⟩), .agg #[.int .i64 (vn : Int), .int .i64 (no : Int)], .slice A (byF (vn, no)).length c] w' fun e w'' => e = .returned (.int .i64 7) ∧ KeepW w w.heap.size K D B (k + 1) w'') := fun A c w' b => by
              refine (keep_put_no (hM5.below b) (vn, no) x h7 hx (byF (vn, no)).length (by omega) hbl A c).mono ?_
              rintro e w'' ⟨rfl, b2⟩
              exact ⟨rfl, KeepW.skip (hM5.below b) hP hmk b2⟩
            clear hM5 hP hG5 hbl h0 hx
            generalize byF (vn, no) = bs at *
            go_wp2_with (first
              | (go_at_call 12; (with_reducible refine BC.mono ?_); rintro e w6 ⟨A6, c6, rfl, own6, B6⟩; have PC6 := PC.out A6 c6 w6 B6)
              | (go_at_call 22; (with_reducible refine PC6.mono ?_); rintro e w7 ⟨rfl, hW⟩))
            go_roundw
            case rel => exact ⟨k + 1, by have := Hlt.out; omega, by go_num, hW⟩
            case measure => have := Hlt.out; simp [intOf]; omega
          | none =>
            have PC : Hid (∀ (A : Option Addr) (c : Nat) (w' : World), Below wc.heap.size wc w' → w'.ownsRow wc.heap.size 5 1 (.slice A (byF (vn, no)).length c) (byF (vn, no)).length (cB (byF (vn, no))) → Calls Tryz.prog 22 #[.pointer (some ⟨B, 0, none⟩), .agg #[.int .i64 (vn : Int), .int .i64 (no : Int)], .slice A (byF (vn, no)).length c] w' fun e w'' => e = .returned (.int .i64 0) ∧ ∃ σ' s' l', KeepM w w'' w.heap.size K D B σ' s' v L mk ∧ KeepP (k + 1) s' l' lasts (L .s ++ [(vn, no)]) (L .g) (L .l)) := fun A c w' b own => by
              obtain ⟨A', c', hv, hc1, hc2⟩ := own_form own
              injection hv with e1 e2 e3
              subst e1 e3
              exact keep_put (hM5.below b) hP hi40 hG (vn, no) h7 hx (by omega) _ _ hc1 hc2 (own_rvf own fun k hk => .inl (hM5.ok.all_lt hk))
            clear hM5 hP hG5 hbl h0 hx
            generalize hbs : byF (vn, no) = bs at *
            clear hbs
            go_upto_region 20 with (first
              | (go_at_call 12; (with_reducible refine BC.mono ?_); rintro e w6 ⟨A6, c6, rfl, own6, B6⟩; have PC6 := PC.out A6 c6 w6 B6 own6)
              | (go_at_call 22; (with_reducible refine PC6.mono ?_); rintro e w7 ⟨rfl, σ7, s7, l7, hM7, hP7⟩))
            clear d1 d2 own6 B6 PC6 PC BC
            obtain ⟨AV, cV, hv, hcV, _⟩ := own_form (hM7.rows .s)
            have c2 : w7.cell? ⟨K, 2, none⟩ = some (v .s) := hM7.bx.at_ (i := 2) rfl
            rw [hv] at c2
            have Hv := Lib.hid hv
            have own7 := hM7.rows .s
            rw [hv] at own7
            have hlS := hP7.lsl
            rw [List.length_append] at hlS
            have hlen : (L .s).length ≤ 100 := by have : ([(vn, no)] : List Nm).length = 1 := rfl; omega
            have hzb := hM7.bel.size
            have HM7 := Lib.hid hM7
            have HP7 := Lib.hid hP7
            clear hM7 hP7 hv hlS
            go_wp2_with ((with_reducible show wpList _ _ _ (⟨some 110, _, _, _, _, _⟩ :: _) _ _); refine wpList_append_rv el_nm rfl (.tmp 105) (.tmp 109) rfl w.heap.size (.slice AV (L .s).length cV) (L .s).length (eC (L .s)) rfl (own7.alloc _) (some ⟨w7.heap.size, 0, none⟩) 1 1 (eC [(vn, no)]) rfl rfl (RV.new w7 (eC [(vn, no)]) 40 (0, 0)) (eC_one _) ?f2 ?f3 ?f4 ?_)
            case f2 => unfold maxLen; omega
            case f3 => omega
            case f4 => simp; omega
            intro v8 w8 own8 gr8 hv8
            obtain ⟨A8, c8, hv8f, _, _⟩ := own_form own8
            subst hv8f
            have B7 : Below w7.heap.size w7 (w7.alloc (.cells (eC [(vn, no)]).toArray 40)) := (Below.refl _ _).alloc (Nat.le_refl _) _
            have bx8 : Blk w8 K 34 (keptC D B v mk) := (gr8.block K (Nat.lt_of_lt_of_le HM7.out.bx.lt B7.size) (fun e => by
              rw [← Hv.out] at e
              exact (HM7.out.apR .s K e.symm).2 rfl)).trans (HM7.out.bx.below B7 HM7.out.bx.lt)
            have z8 := bx8.frozen 2
            have y8 := bx8.at_ (i := 2) (v := v .s) rfl
            have hM8 := Lib.hid (HM7.out.push .s (new := [(vn, no)]) B7 (by exact own8) (by rw [Hv.out]; exact gr8) (by rw [Hv.out, World.size_alloc]; exact hv8))
            clear own8 gr8 hv8 own7 c2 bx8 B7
            go_wp2_with fail
            go_roundw
            case rel => exact ⟨k + 1, by have := Hlt.out; omega, by go_num, σ7, _, l7, lasts, _, _, mk, hM8.out, HP7.out.rex _, by omega⟩
            case measure => have := Hlt.out; simp [intOf]; omega
        · have ek : (kd : Int) % 5 = 2 := ek0
          clear ek0 hkd
          have c4 : wc.cell? ⟨K, 4, none⟩ = some (.int .i64 (mk : Int)) := hM5.bx.at_ (i := 4) rfl
          have s1 : IntKind.i64.wrap ((mk : Int) + 1) = (mk : Int) + 1 := by rw [IntKind.wrap_i64]; omega
          have B6 : Below wc.heap.size wc (wc.alloc (.cells #[.string ⟨#[122]⟩] 9)) := (Below.refl _ _).alloc (Nat.le_refl _) _
          have zk := Blk.new wc 9 #[.string ⟨#[122]⟩]
          have ZC := ztext_calls ((mk : Int) + 1) (by omega) (by omega) wc.heap.size (wc.alloc (.cells #[.string ⟨#[122]⟩] 9)) w.heap.size (hG5.bel B6 hM5.bel.size) (Nat.le_trans hM5.bel.size B6.size) (by simp) (zk.at_ (i := 0) rfl)
          have KN : Hid (∀ (t : List UInt8) (w' : World), t.length ≤ 109 → Below (wc.alloc (.cells #[.string ⟨#[122]⟩] 9)).heap.size (wc.alloc (.cells #[.string ⟨#[122]⟩] 9)) w' → Calls Tryz.prog 24 #[.pointer (some ⟨B, 0, none⟩), .string (bstr t)] w' fun e w'' => e = .returned (.int .i64 0) ∧ ∃ σ' s' l' lasts', KeepM w w'' w.heap.size K D B σ' s' v L mk ∧ KeepP (k + 1) s' l' lasts' (L .s) (L .g) (L .l)) := fun t w' ht b =>
            keep_mark (hM5.below (B6.trans (b.mono B6.size))) hP hi40 hG t ht
          clear hM5 hP hG5 B6 zk
          go_upto_region 24 with (first
            | (go_at_call 23; (with_reducible refine ZC.mono ?_); rintro e w6 ⟨t, rfl, ht, B6⟩; have KN6 := KN.out t w6 ht B6)
            | (go_at_call 24; (with_reducible refine KN6.mono ?_); rintro e w7 ⟨rfl, σ7, s7, l7, lasts7, hM7, hP7⟩))
          have c47 : w7.cell? ⟨K, 4, none⟩ = some (.int .i64 (mk : Int)) := hM7.bx.at_ (i := 4) rfl
          have z47 := hM7.bx.frozen 4
          have hM8 := Lib.hid hM7.mark
          have HP7 := Lib.hid hP7
          clear hM7 hP7 KN6 KN ZC B6 c4
          go_wp2_with fail
          go_roundw
          case rel => exact ⟨k + 1, by have := Hlt.out; omega, by go_num, σ7, s7, l7, lasts7, v, L, mk + 1, hM8.out, HP7.out, by omega⟩
          case measure => have := Hlt.out; simp [intOf]; omega
        · have ek : (kd : Int) % 5 = 3 := ek0
          clear ek0 hkd
          have SC := keep_sync hM5 hP hi40
          clear hM5 hP hG5
          go_upto_region 27 with (go_at_call 25; (with_reducible refine SC.mono ?_); rintro e w7 ⟨rfl, σ7, s7, lasts7, hM7, hP7⟩)
          clear SC
          obtain ⟨AV, cV, hv, hcV, _⟩ := own_form (hM7.rows .s)
          obtain ⟨AL, cL, hvl, hcL, _⟩ := own_form (hM7.rows .l)
          have c2 : w7.cell? ⟨K, 2, none⟩ = some (v .s) := hM7.bx.at_ (i := 2) rfl
          have c5 : w7.cell? ⟨K, 5, none⟩ = some (v .l) := hM7.bx.at_ (i := 5) rfl
          rw [hv] at c2
          rw [hvl] at c5
          have Hvl := Lib.hid hvl
          have own7 := hM7.rows .l
          rw [hvl] at own7
          have rvs : RV w7 AV (eC (L .s)) := by have := hM7.rows .s; rw [hv] at this; exact (rvf_ofk (F := fun _ => False) this fun _ q => q.elim).rv
          have hlS := hP7.lsl
          have hlL := hP7.lla
          rw [List.length_append] at hlL
          have hzb := hM7.bel.size
          have l1 : (L .s).length ≤ 100 := by omega
          have l2 : (L .l).length ≤ 10000 := by omega
          have HM7 := Lib.hid hM7
          have HP7 := Lib.hid hP7
          have hne : ∀ k, (v .l).ownBlock = some k → k ≠ K := fun k hk => (HM7.out.apR .l k hk).2
          clear hM7 hP7 hv hvl hlS hlL
          go_region_law (refine step_append_rv (A := AV) (m := (L .s).length) (c := cV) (v := .slice AL (L .l).length cL) (n := (L .l).length) (base := w.heap.size) (xs := eC (L .l)) (news := eC (L .s)) el_nm rfl (.tmp 146) (.tmp 150) rfl rfl own7.drew rfl (eC_len _) rvs.drew (eC_one _) (by unfold maxLen; omega) (by omega) hzb ?_; intro v8 w8 own8 gr8 hv8; have bx8 : Blk w8 K 34 (keptC D B v mk) := (gr8.block K HM7.out.bx.lt (fun e => by
              rw [← Hvl.out] at e
              exact hne K e.symm rfl)).trans HM7.out.bx; have z8 := bx8.frozen 5; have y8 := bx8.at_ (i := 5) (v := v .l) rfl; have hM8 := Lib.hid (HM7.out.push .l (new := L .s) (Below.refl _ w7).drew own8 (by rw [Hvl.out]; exact gr8) (by rw [Hvl.out]; exact hv8)); obtain ⟨A8, c8, hv8f, _, _⟩ := own_form own8; subst hv8f)
          all_goals
            go_wp2_with fail
            go_roundw
            case rel => exact ⟨k + 1, by have := Hlt.out; omega, by go_num, σ7, _, l, lasts7, _, _, mk, hM8.out, HP7.out.rex _, by omega⟩
            case measure => have := Hlt.out; simp [intOf]; omega
        · have ek : (kd : Int) % 5 = 4 := ek0
          clear ek0 hkd
          cases hx : s.st.sl (vn, no) with
          | none =>
            have DC := keep_drop_no hM5 (vn, no) h7 hx
            have HW : Hid (∀ w', Below wc.heap.size wc w' → KeepW w w.heap.size K D B (k + 1) w') := fun w' b => KeepW.skip hM5 hP hmk b
            clear hM5 hP hG5 hx
            go_wp2_with (go_at_call 26; (with_reducible refine DC.mono ?_); rintro e w6 ⟨rfl, B6⟩; have hW := HW.out w6 B6)
            go_roundw
            case rel => exact ⟨k + 1, by have := Hlt.out; omega, by go_num, hW⟩
            case measure => have := Hlt.out; simp [intOf]; omega
          | some x =>
            have DC := keep_drop hM5 hP hi40 hG (vn, no) x h7 hx
            clear hM5 hP hG5 hx
            go_upto_region 14 with (go_at_call 26; (with_reducible refine DC.mono ?_); rintro e w7 ⟨rfl, σ7, s7, l7, hM7, hP7⟩)
            clear DC
            obtain ⟨AV, cV, hv, hcV, _⟩ := own_form (hM7.rows .g)
            have c2 : w7.cell? ⟨K, 3, none⟩ = some (v .g) := hM7.bx.at_ (i := 3) rfl
            rw [hv] at c2
            have Hv := Lib.hid hv
            have own7 := hM7.rows .g
            rw [hv] at own7
            have hlS := hP7.lgone
            rw [List.length_append] at hlS
            have hlen : (L .g).length ≤ 100 := by have : ([(vn, no)] : List Nm).length = 1 := rfl; omega
            have hzb := hM7.bel.size
            have HM7 := Lib.hid hM7
            have HP7 := Lib.hid hP7
            clear hM7 hP7 hv hlS
            go_wp2_with ((with_reducible show wpList _ _ _ (⟨some 74, _, _, _, _, _⟩ :: _) _ _); refine wpList_append_rv el_nm rfl (.tmp 69) (.tmp 73) rfl w.heap.size (.slice AV (L .g).length cV) (L .g).length (eC (L .g)) rfl (own7.alloc _) (some ⟨w7.heap.size, 0, none⟩) 1 1 (eC [(vn, no)]) rfl rfl (RV.new w7 (eC [(vn, no)]) 40 (0, 0)) (eC_one _) ?f2 ?f3 ?f4 ?_)
            case f2 => unfold maxLen; omega
            case f3 => omega
            case f4 => simp; omega
            intro v8 w8 own8 gr8 hv8
            obtain ⟨A8, c8, hv8f, _, _⟩ := own_form own8
            subst hv8f
            have B7 : Below w7.heap.size w7 (w7.alloc (.cells (eC [(vn, no)]).toArray 40)) := (Below.refl _ _).alloc (Nat.le_refl _) _
            have bx8 : Blk w8 K 34 (keptC D B v mk) := (gr8.block K (Nat.lt_of_lt_of_le HM7.out.bx.lt B7.size) (fun e => by
              rw [← Hv.out] at e
              exact (HM7.out.apR .g K e.symm).2 rfl)).trans (HM7.out.bx.below B7 HM7.out.bx.lt)
            have z8 := bx8.frozen 3
            have y8 := bx8.at_ (i := 3) (v := v .g) rfl
            have hM8 := Lib.hid (HM7.out.push .g (new := [(vn, no)]) B7 (by exact own8) (by rw [Hv.out]; exact gr8) (by rw [Hv.out, World.size_alloc]; exact hv8))
            clear own8 gr8 hv8 own7 c2 bx8 B7
            go_wp2_with fail
            go_roundw
            case rel => exact ⟨k + 1, by have := Hlt.out; omega, by go_num, σ7, _, l7, lasts, _, _, mk, hM8.out, HP7.out.rex _, by omega⟩
            case measure => have := Hlt.out; simp [intOf]; omega
    · have dec : decide ((k : Int) < (l0.length : Int)) = false := decide_eq_false (by omega)
      have dec' : decide (k < l0.length) = false := decide_eq_false hlt
      have hE : k = l0.length := by omega
      subst hE
      have HF : Hid (RetKeep w l0.length (.returned (.tuple #[.pointer (some ⟨K, 0, none⟩), .bool true])) wr) := ⟨K, D, B, rfl, σ, s, l, lasts, v, L, mk, hM, hP, hmk⟩
      clear hM hP
      go_wp2_with fail
      go_ret2
      exact HF.out
end Go.Proofs.YtendnkklbeiegaaGreatDoor
