/-
  The walks of the document's disk: Cut.
-/
import Derived.Test.YtmemkoiooanhkaaRefWalkC
namespace Go.Proofs.Ytmemkoiooanhkaa
open Go.RowKit DiskP

/-- The world under a name of its own, with what is known of it. -/
theorem wpList_abs {P : Program} {ops : Array Oper} {Q : Exit → Act → World → Prop} {l : List Oper} {a : Act} {w : World} (S : World → Prop) (hS : S w) (h : ∀ w', S w' → wpList P ops Q l a w') : wpList P ops Q l a w := h w hS
/-- Half of the writes are looked at. -/
structure Kpt (w : World) (F : Nat → Prop) (d : Dsk) (keep : List Bool) (torn : Int) (x : Array Value) (k : Nat) (v : Value) (wr : World) : Prop where
  row : ∃ K : List WR, WaitOK w F d.size K (keepW keep torn tornS 0 (d.wait.take k)) ∧ wr.ownsRow (w.heap.size + 1 + 1) 70 3 v K.length (rC K)
  bel : Below w.heap.size w wr
  box : Blk wr w.heap.size 51 x
  res : Blk wr (w.heap.size + 1) 51 #[.int .i64 0, .slice none 0 0, .slice none 0 0, .bool false]
theorem keepW_len {α : Type} (keep : List Bool) (torn : Int) (z : α) (i : Nat) (ws : List (Nat × α)) : (keepW keep torn z i ws).length ≤ ws.length := by
  induction ws generalizing i with
  | nil => simp [keepW]
  | cons x ws ih =>
    rw [keepW_cons, List.length_append]
    have := ih (i + 1)
    have h1 : (keep1 keep torn z i x).length ≤ 1 := by unfold keep1; split; simp; split <;> simp
    simp only [List.length_cons]; omega
theorem Kpt.skip {w wr : World} {F : Nat → Prop} {d : Dsk} {keep : List Bool} {torn : Int} {x : Array Value} {k : Nat} {v : Value} (h : Kpt w F d keep torn x k v wr) {p : Nat × Sect} (hp : d.wait[k]? = some p)
    (h1 : ¬ (k : Int) = torn) (h2 : keep.getD k false = false) (o : Obj) : Kpt w F d keep torn x (k + 1) v (wr.alloc o) := by
  obtain ⟨⟨K, ko, own⟩, bel, box, res⟩ := h
  have hk : k < d.wait.length := (List.getElem?_eq_some_iff.1 hp).1
  refine ⟨⟨K, ?_, own.alloc _⟩, bel.alloc bel.size _, box.alloc _, res.alloc _⟩
  have e : d.wait.take (k + 1) = d.wait.take k ++ [p] := by
    rw [List.take_succ_eq_append_getElem hk]
    rw [List.getElem?_eq_getElem hk] at hp
    injection hp with hp
    rw [hp]
  rw [e, keepW_snoc]
  have e2 : keep1 keep torn tornS (0 + (d.wait.take k).length) p = [] := by
    unfold keep1
    rw [List.length_take, Nat.zero_add, Nat.min_eq_left (by omega), if_neg h1, h2]; rfl
  rw [e2, List.append_nil]
  exact ko
theorem Kpt.more {w wr w1 : World} {F : Nat → Prop} {d : Dsk} {keep : List Bool} {torn : Int} {x : Array Value} {k : Nat} {v v1 : Value} {K : List WR} (ko : WaitOK w F d.size K (keepW keep torn tornS 0 (d.wait.take k)))
    (own : wr.ownsRow (w.heap.size + 1 + 1) 70 3 v K.length (rC K)) (bel : Below w.heap.size w wr)
    (box : Blk wr w.heap.size 51 x) (res : Blk wr (w.heap.size + 1) 51 #[.int .i64 0, .slice none 0 0, .slice none 0 0, .bool false])
    {p : Nat × Sect} (hp : d.wait[k]? = some p) {q : Nat × Sect} (hq : keep1 keep torn tornS k p = [q]) {r : WR} (hn : r.n = (q.1 : Int)) (hr : WrOK w F d.size r q.2)
    (o o' : Obj) (own1 : w1.ownsRow (w.heap.size + 1 + 1) 70 3 v1 (K.length + 1) (rC K ++ r.cells)) (gr : ((wr.alloc o).alloc o').grownBy w1 v.ownBlock) : Kpt w F d keep torn x (k + 1) v1 w1 := by
  have hk : k < d.wait.length := (List.getElem?_eq_some_iff.1 hp).1
  have e : d.wait.take (k + 1) = d.wait.take k ++ [p] := by
    rw [List.take_succ_eq_append_getElem hk]
    rw [List.getElem?_eq_getElem hk] at hp
    injection hp with hp
    rw [hp]
  have hne : ∀ g, g < w.heap.size + 1 + 1 → some g ≠ v.ownBlock := fun g hg e => by have := (own_lt own e.symm).1; omega
  have hw := bel.size
  have hb2 : Below w.heap.size w ((wr.alloc o).alloc o') := (bel.alloc bel.size _).alloc (by simp; omega) _
  refine ⟨⟨K ++ [r], ?_, ?_⟩, hb2.grown gr (by simp; omega) (fun g hg => by have := (own_lt own hg).1; omega), ((box.alloc _).alloc _).grown gr (hne _ (by omega)), ((res.alloc _).alloc _).grown gr (hne _ (by omega))⟩
  · rw [e, keepW_snoc]
    have e2 : keep1 keep torn tornS (0 + (d.wait.take k).length) p = [q] := by rw [List.length_take, Nat.zero_add, Nat.min_eq_left (by omega)]; exact hq
    rw [e2]
    exact ko.snoc hn hr
  · rw [rC_append, List.length_append]
    have : rC [r] = r.cells := by simp [rC]
    rw [this]
    exact own1
set_option maxHeartbeats 1600000 in
theorem rcut_on (m : Ref) (d : Dsk) (F : Nat → Prop) (keep : List Bool) (B : Option Addr) (cap : Nat) (torn : Int) (w : World) (h : RefOK w F m d) (hF : ∀ k, F k → k < w.heap.size) (ho : d.off = false) (hw : d.wait.length ≤ 1000000)
    (hR : RV w B (cL keep)) (hkl : keep.length ≤ 9223372036854775807) :
    Calls Try.prog 26 #[m.val d.size d.off, .slice B keep.length cap, .int .i64 torn] w (RetRef1 w F (d.cut keep torn)) := by
  have hS : d.cut keep torn = { lastsS d (keepW keep torn tornS 0 d.wait) with off := true } := by unfold Dsk.cut; rw [ho]; rfl
  rw [hS]
  have hG : RefOK w (fun k => F k ∨ k = w.heap.size ∨ k = w.heap.size + 1) m d := h.mono fun k hk hg => by rcases hg with hg | hg | hg; exact hg; omega; omega
  have hLC := fun (w2 : World) (b2 : Below w.heap.size w w2) (hs2 : w.heap.size + 1 < w2.heap.size) (AK : Option Addr) (kK : Nat) (K : List WR) (hkr : RVF w2 (fun k => F k ∨ k = w.heap.size ∨ k = w.heap.size + 1) AK (rC K)) (hko : WaitOK w F d.size K (keepW keep torn tornS 0 d.wait)) =>
    lasts_calls m d (fun k => F k ∨ k = w.heap.size ∨ k = w.heap.size + 1) AK kK K (keepW keep torn tornS 0 d.wait) w2 (hG.below b2) (fun k hk => by rcases hk with hk | hk | hk; (have := hF k hk; omega); omega; omega) hkr
      ((hko.mono fun k hk hg => by rcases hg with hg | hg | hg; exact hg; omega; omega).below b2) (fun x hx => by obtain ⟨y, hy, e⟩ := keepW_sect hx; rw [← e]; exact h.ww y hy) (by have := keepW_len keep torn tornS 0 d.wait; omega)
  rw [ho] at hLC ⊢
  obtain ⟨AL, kL, L, AW, kW, W⟩ := m
  have hwr : RVF w F AW (rC W) := h.wr
  have hwo : WaitOK w F d.size W d.wait := h.wo
  have hwl : W.length = d.wait.length := hwo.len
  have hW : W.length ≤ 1000000 := by omega
  have hs2 := h.s2
  have HW := Lib.hid hwl
  have HO := Lib.hid ho
  have HLC := Lib.hid hLC
  clear hwl ho hG hS hLC
  unfold Ref.val
  have K0 : Kpt w F d keep torn #[.int .i64 (d.size : Int), .slice AL L.length kL, .slice AW W.length kW, .bool false] 0 (.slice none 0 0) ((w.alloc (.cells #[.int .i64 (d.size : Int), .slice AL L.length kL, .slice AW W.length kW, .bool false] 51)).alloc (.cells #[.int .i64 0, .slice none 0 0, .slice none 0 0, .bool false] 51)) := by
    refine ⟨⟨[], WaitOK.nil, World.ownsRow_nil _ _ _ _⟩, ((Below.refl _ _).alloc (Nat.le_refl _) _).alloc (by simp) _, (Blk.new w _ _).alloc _, ?_⟩
    have := Blk.new (w.alloc (.cells #[.int .i64 (d.size : Int), .slice AL L.length kL, .slice AW W.length kW, .bool false] 51)) 51 #[.int .i64 0, .slice none 0 0, .slice none 0 0, .bool false]
    rw [World.size_alloc] at this
    exact this
  go_enter Try.func26, Try.ntmps26
  go_wp2
  go_loopw [7, 8, 9, 16] (fun v _ _ i wr => ∃ k : Nat, k ≤ W.length ∧ i = .int .i64 k ∧ Kpt w F d keep torn #[.int .i64 (d.size : Int), .slice AL L.length kL, .slice AW W.length kW, .bool false] k v wr) (fun _ _ _ i _ => W.length - (intOf i).toNat)
  case atStart => exact ⟨0, by omega, rfl, K0⟩
  case round =>
    obtain ⟨k, hk, rfl, kp⟩ := hrel
    clear K0
    by_cases hlt : k < W.length
    · obtain ⟨r, hr⟩ : ∃ r, W[k]? = some r := ⟨_, List.getElem?_eq_getElem hlt⟩
      have hks : k < d.wait.length := by rw [← HW.out]; exact hlt
      obtain ⟨p, hp⟩ : ∃ x, d.wait[k]? = some x := ⟨_, List.getElem?_eq_getElem hks⟩
      obtain ⟨hn, hro⟩ := hwo.at_ k r p hr hp
      obtain ⟨b, off, rfl, hb, _, hc⟩ := hwr.row hr
      have bel := kp.bel
      obtain ⟨q0, q1, q2⟩ := hc wr bel
      rw [hn] at q0
      have hwr' := bel.size
      have hdec : decide ((k : Int) < (W.length : Int)) = true := by simp; omega
      have rl := kp.res.lt
      have HP := Lib.hid hp
      have HN := Lib.hid hn
      clear hc hr hp hn
      by_cases ht : (k : Int) = torn
      · obtain ⟨⟨K, ko, own⟩, _, box, res⟩ := kp
        have hKl : K.length ≤ 1000000 := by have := ko.len; have := keepW_len keep torn tornS 0 (d.wait.take k); simp only [List.length_take] at this; omega
        obtain ⟨AV, kV, hvf, _, _⟩ := own_form own
        subst hvf
        subst ht
        have rv : ∀ o, RV ((wr.alloc o).alloc (.cells #[.int .i64 (p.1 : Int), .slice none 0 0, .bool false] 70)) (some ⟨wr.heap.size + 1, 0, none⟩) [.int .i64 (p.1 : Int), .slice none 0 0, .bool false] := fun o => by
          have := RV.new (wr.alloc o) [.int .i64 (p.1 : Int), .slice none 0 0, .bool false] 70 (0, 0)
          rw [World.size_alloc] at this
          exact this
        have hFb : ∀ k, (F k ∨ k = w.heap.size ∨ k = w.heap.size + 1) → k < w.heap.size + 1 + 1 := fun k hk => by rcases hk with hk | hk | hk; (have := hF k hk; omega); omega; omega
        go_wp2_with ((with_reducible show wpList _ _ _ (⟨some 29, _, _, _, _, _⟩ :: _) _ _); refine wpList_append_rv el_rw rfl (.tmp 24) (.tmp 28) rfl (w.heap.size + 1 + 1) (.slice AV K.length kV) K.length (rC K) rfl ((own.alloc _).alloc _) (some ⟨wr.heap.size + 1, 0, none⟩) 1 1 [.int .i64 (p.1 : Int), .slice none 0 0, .bool false] rfl rfl (rv _) ?g1 ?g2 ?g3 ?g4 ?_)
        case g1 => exact rC_one [⟨p.1, none, 0, 0, false⟩]
        case g2 => unfold maxLen; omega
        case g3 => omega
        case g4 => (simp; try omega)
        intro v3 w3 own3 gr3 hv3
        have HK := Lib.hid (Kpt.more ko own bel box res HP.out (q := (p.1, tornS)) (by unfold keep1; rw [if_pos rfl]) (r := ⟨p.1, none, 0, 0, false⟩) rfl ⟨rfl, rfl, rfl, rfl⟩ _ _ own3 gr3)
        obtain ⟨A3, k3, hv3f, _, _⟩ := own_form own3
        clear own3 gr3 hv3 rv own ko box res
        subst hv3f
        go_wp2
        go_roundw
        case rel => exact ⟨k + 1, by omega, by go_num, HK.out⟩
        case measure => simp [intOf]; omega
      · have e1 : ((k : Int) == torn) = false := by simpa using ht
        have HT := Lib.hid ht
        clear ht
        by_cases hkk : k < keep.length
        · have e2 : decide ((k : Int) < (keep.length : Int)) = true := by simp; omega
          have e2' : decide (k < keep.length) = true := by simp; omega
          obtain ⟨bB, oB, rfl, hbB, hcB⟩ := hR (by intro e; have := cL_len keep; rw [e] at this; simp at this; omega)
          have kc : wr.cell? ⟨bB, oB + k, none⟩ = some (.bool (keep.getD k false)) := by
            rw [bel.cell (p := ⟨bB, oB + k, none⟩) hbB]
            exact hcB k _ (by simp [cL, List.getD, hkk])
          have kc' : ∀ o, (wr.alloc o).cell? ⟨bB, oB + k, none⟩ = some (.bool (keep.getD k false)) := fun o => (World.cell?_alloc_lt wr o ⟨bB, oB + k, none⟩ (Nat.lt_of_lt_of_le hbB hwr')).trans kc
          clear hcB kc
          cases hkv : keep.getD k false
          · simp only [hkv] at kc'
            have HS := Lib.hid (fun o => kp.skip HP.out HT.out hkv o)
            obtain ⟨⟨K, ko, own⟩, _, box, res⟩ := kp
            obtain ⟨AV, kV, hvf, _, _⟩ := own_form own
            subst hvf
            clear hkv own ko box res
            go_wp2
            go_roundw
            case rel => exact ⟨k + 1, by omega, by go_num, HS.out _⟩
            case measure => simp [intOf]; omega
          · simp only [hkv] at kc'
            obtain ⟨⟨K, ko, own⟩, _, box, res⟩ := kp
            have hKl : K.length ≤ 1000000 := by have := ko.len; have := keepW_len keep torn tornS 0 (d.wait.take k); simp only [List.length_take] at this; omega
            obtain ⟨AV, kV, hvf, _, _⟩ := own_form own
            subst hvf
            have HV := Lib.hid hkv
            clear hkv
            have rv : ∀ o, RV ((wr.alloc o).alloc (.cells #[.int .i64 (p.1 : Int), .slice r.A r.len r.cap, .bool r.rot] 70)) (some ⟨wr.heap.size + 1, 0, none⟩) [.int .i64 (p.1 : Int), .slice r.A r.len r.cap, .bool r.rot] := fun o => by
              have := RV.new (wr.alloc o) [.int .i64 (p.1 : Int), .slice r.A r.len r.cap, .bool r.rot] 70 (0, 0)
              rw [World.size_alloc] at this
              exact this
            go_wp2_with ((with_reducible show wpList _ _ _ (⟨some 43, _, _, _, _, _⟩ :: _) _ _); refine wpList_append_rv el_rw rfl (.tmp 40) (.tmp 42) rfl (w.heap.size + 1 + 1) (.slice AV K.length kV) K.length (rC K) rfl ((own.alloc _).alloc _) (some ⟨wr.heap.size + 1, 0, none⟩) 1 1 [.int .i64 (p.1 : Int), .slice r.A r.len r.cap, .bool r.rot] rfl rfl (rv _) ?h1 ?h2 ?h3 ?h4 ?_)
            case h1 => exact rC_one [⟨p.1, r.A, r.len, r.cap, r.rot⟩]
            case h2 => unfold maxLen; omega
            case h3 => omega
            case h4 => (simp; try omega)
            intro v3 w3 own3 gr3 hv3
            have HK := Lib.hid (Kpt.more ko own bel box res HP.out (q := p) (by unfold keep1; rw [if_neg HT.out, HV.out]; rfl) (r := ⟨p.1, r.A, r.len, r.cap, r.rot⟩) rfl hro _ _ own3 gr3)
            obtain ⟨A3, k3, hv3f, _, _⟩ := own_form own3
            clear own3 gr3 hv3 rv own ko box res
            subst hv3f
            go_wp2
            go_roundw
            case rel => exact ⟨k + 1, by omega, by go_num, HK.out⟩
            case measure => simp [intOf]; omega
        · have e2 : decide ((k : Int) < (keep.length : Int)) = false := by simp; omega
          have e2' : decide (k < keep.length) = false := by simp; omega
          have HS := Lib.hid (fun o => kp.skip HP.out HT.out (by simp [List.getD, hkk]) o)
          obtain ⟨⟨K, ko, own⟩, _, box, res⟩ := kp
          obtain ⟨AV, kV, hvf, _, _⟩ := own_form own
          subst hvf
          clear own ko box res
          go_wp2
          go_roundw
          case rel => exact ⟨k + 1, by omega, by go_num, HS.out _⟩
          case measure => simp [intOf]; omega
    · obtain rfl : k = W.length := by omega
      have HT : Hid (d.wait.take W.length = d.wait) := by show _ = _; rw [HW.out]; simp
      obtain ⟨⟨K, ko, own⟩, bel, box, res⟩ := kp
      rw [HT.out] at ko
      have hFb : ∀ k, (F k ∨ k = w.heap.size ∨ k = w.heap.size + 1) → k < w.heap.size + 1 + 1 := fun k hk => by rcases hk with hk | hk | hk; (have := hF k hk; omega); omega; omega
      obtain ⟨AV, kV, hvf, _, _⟩ := own_form own
      subst hvf
      have LC := HLC.out wr bel res.lt AV kV K (RVF.of_own own hFb) ko
      have c0 : wr.cell? ⟨w.heap.size, 0, none⟩ = some (.int .i64 (d.size : Int)) := box.at_ rfl
      have c1 : wr.cell? ⟨w.heap.size, 1, none⟩ = some (.slice AL L.length kL) := box.at_ rfl
      have c2 : wr.cell? ⟨w.heap.size, 2, none⟩ = some (.slice AW W.length kW) := box.at_ rfl
      have c3 : wr.cell? ⟨w.heap.size, 3, none⟩ = some (.bool false) := box.at_ rfl
      have bl := box.lt
      have rl := res.lt
      have HB := Lib.hid box
      have HR := Lib.hid res
      clear own ko HT hFb box res hlt hk
      unfold Ref.val at LC
      go_wp2_with fail
      refine LC.mono ?_
      clear LC
      rintro e w1 ⟨m1, rfl, h1, b1⟩
      have x1 := HB.out.below b1 bl
      have z1 := HR.out.below b1 rl
      obtain ⟨AL1, kL1, L1, AW1, kW1, W1⟩ := m1
      have b1' : Below w.heap.size w w1 := bel.trans (b1.mono (Nat.le_of_lt bl))
      have hend : ∀ w2, Kept (fun k => k = w.heap.size ∨ k = w.heap.size + 1) w1 w2 → RetRef1 w F { lastsS d (keepW keep torn tornS 0 d.wait) with off := true } (.returned (Ref.val ⟨AL1, kL1, L1, AW1, kW1, W1⟩ d.size true)) w2 := by
        intro w2 hk2
        have h1' : RefOK w1 (fun k => F k ∨ k = w.heap.size ∨ k = w.heap.size + 1) ⟨AL1, kL1, L1, AW1, kW1, W1⟩ { lastsS d (keepW keep torn tornS 0 d.wait) with off := true } := { h1 with }
        exact ⟨_, rfl, (h1'.kept (hk2.mono fun _ _ h => .inr h)).mono (fun _ _ hf => .inl hf), b1'.trans (hk2.below (fun k _ hk => by rcases hk with rfl | rfl; exact Nat.le_refl _; exact Nat.le_succ _) b1'.size)⟩
      have HEND := Lib.hid hend
      have s0 : w1.cell? ⟨w.heap.size, 0, none⟩ = some (.int .i64 (d.size : Int)) := x1.at_ rfl
      have s1 : w1.cell? ⟨w.heap.size, 1, none⟩ = some (.slice AL L.length kL) := x1.at_ rfl
      have s2 : w1.cell? ⟨w.heap.size, 2, none⟩ = some (.slice AW W.length kW) := x1.at_ rfl
      have s3 : w1.cell? ⟨w.heap.size, 3, none⟩ = some (.bool false) := x1.at_ rfl
      have y0 := x1.frozen 0
      have y1 := x1.frozen 1
      have y2 := x1.frozen 2
      have y3 := x1.frozen 3
      have e1 : (lastsS d (keepW keep torn tornS 0 d.wait)).size = d.size := rfl
      have e2 : (lastsS d (keepW keep torn tornS 0 d.wait)).off = false := HO.out
      rw [e1, e2]
      have HX := Lib.hid x1
      have HZ := Lib.hid z1
      clear hend h1 z1 x1 e1 e2 HLC HB HR
      unfold Ref.val
      go_wp2_with ((with_reducible show wpList _ _ _ (⟨some 48, _, _, _, _, _⟩ :: _) _ _); refine wpList_abs (fun w2 => Blk w2 w.heap.size 51 #[.int .i64 (d.size : Int), .slice AL1 L1.length kL1, .slice AW1 W1.length kW1, .bool false] ∧ Blk w2 (w.heap.size + 1) 51 #[.int .i64 0, .slice none 0 0, .slice none 0 0, .bool false] ∧ Kept (fun k => k = w.heap.size ∨ k = w.heap.size + 1) w1 w2) ?i1 ?_)
      case i1 => exact ⟨(((HX.out.set_ 0 _).set_ 1 _).set_ 2 _).set_ 3 _, (((HZ.out.far (by simp) _).far (by simp) _).far (by simp) _).far (by simp) _, ((((Kept.refl _ _).setCell (.inl (.inl rfl)) _).setCell (.inl (.inl rfl)) _).setCell (.inl (.inl rfl)) _).setCell (.inl (.inl rfl)) _⟩
      rintro w2 ⟨x2, z2, k2⟩
      clear s0 s1 s2 s3 y0 y1 y2 y3 HX HZ
      have HK := Lib.hid k2
      have p0 : w2.cell? ⟨w.heap.size + 1, 0, none⟩ = some (.int .i64 0) := z2.at_ rfl
      have p1 : w2.cell? ⟨w.heap.size + 1, 1, none⟩ = some (.slice none 0 0) := z2.at_ rfl
      have p2 : w2.cell? ⟨w.heap.size + 1, 2, none⟩ = some (.slice none 0 0) := z2.at_ rfl
      have p3 : w2.cell? ⟨w.heap.size + 1, 3, none⟩ = some (.bool false) := z2.at_ rfl
      have t0 := z2.frozen 0
      have t1 := z2.frozen 1
      have t2 := z2.frozen 2
      have t3 := z2.frozen 3
      have s0 : w2.cell? ⟨w.heap.size, 0, none⟩ = some (.int .i64 (d.size : Int)) := x2.at_ rfl
      have s1 : w2.cell? ⟨w.heap.size, 1, none⟩ = some (.slice AL1 L1.length kL1) := x2.at_ rfl
      have s2 : w2.cell? ⟨w.heap.size, 2, none⟩ = some (.slice AW1 W1.length kW1) := x2.at_ rfl
      have s3 : w2.cell? ⟨w.heap.size, 3, none⟩ = some (.bool false) := x2.at_ rfl
      have y3 := x2.frozen 3
      clear x2 z2 k2
      go_wp2
      refine bodyPost_ret (v := Ref.val ⟨AL1, kL1, L1, AW1, kW1, W1⟩ d.size true) (by simp [results, Try.results26, go_sem, Ref.val, p0, p1, p2, p3]) rfl (HEND.out _ (HK.out.trans ?_))
      repeat (first | exact Kept.refl _ _ | refine Kept.setCell ?_ (.inl (.inl rfl)) _ | refine Kept.setCell ?_ (.inl (.inr rfl)) _)
theorem rcut_calls (m : Ref) (d : Dsk) (F : Nat → Prop) (keep : List Bool) (B : Option Addr) (cap : Nat) (torn : Int) (w : World) (h : RefOK w F m d) (hF : ∀ k, F k → k < w.heap.size) (hw : d.wait.length ≤ 1000000)
    (hR : RV w B (cL keep)) (hkl : keep.length ≤ 9223372036854775807) :
    Calls Try.prog 26 #[m.val d.size d.off, .slice B keep.length cap, .int .i64 torn] w (RetRef1 w F (d.cut keep torn)) := by
  cases ho : d.off
  · rw [← ho]
    exact rcut_on m d F keep B cap torn w h hF ho hw hR hkl
  · have hS : d.cut keep torn = d := by unfold Dsk.cut; rw [ho]; rfl
    have hb : ∀ o o' : Obj, Below w.heap.size w ((w.alloc o).alloc o') := fun o o' => ((Below.refl _ _).alloc (Nat.le_refl _) _).alloc (by simp) _
    rw [hS]
    have HO := Lib.hid ho
    have H := Lib.hid h
    clear ho hS h
    unfold Ref.val
    go_enter Try.func26, Try.ntmps26
    go_wp2
    refine bodyPost_ret (v := m.val d.size true) (by simp [results, Try.results26, go_sem, Ref.val]) rfl ⟨m, by rw [HO.out], H.out.below (hb _ _), hb _ _⟩
end Go.Proofs.Ytmemkoiooanhkaa
