/-
  Walk of the document: Word.
-/
import Derived.Test.YtiokbebodblhaaaGreatDoorTDa
import Derived.Deep.RegionLaw
namespace Go.Proofs.YtiokbebodblhaaaGreatDoor
open Go.RowKit TraceP

theorem info_byte : (Tryz.prog.info? 5).map (fun i => (i.zero, i.size, i.bytes)) = some (some (.int .u8 0), 1, 1) := by kernel_rfl
theorem el_byte : El Tryz.prog 43 5 (.int .u8 0) 1 1 := ⟨info_parts info_byte, Tryz.underlying43, rfl, by decide⟩
/-- append of what can be read onto a row of the call's own, as one step of a region that draws. -/
theorem step_append_rv {P : Program} {w : World} {base : Nat} {t e : TypeId} {z : Value} {size bytes n m c : Nat} {v : Value} {xs news : List Value} {A : Option Addr} {ops : Array Oper} {o : Oper} {a : Act} {K : Act → World → Prop} {Q : Exit → Act → World → Prop} {E : Prop}
    (El0 : El P t e z size bytes) (hg : o.guard = none) (s x : Operand)
    (ho : o.op = .call { callee := .builtin .append, args := #[s, x], argTypes := #[t, t] })
    (hs : a.eval s = v) (hown : w.ownsRow base e size v n xs)
    (hx : a.eval x = .slice A m c) (hl : news.length = m * size) (hr : RV w A news) (h1 : ∀ u ∈ news, u.oneCell' = true)
    (h63 : n + m ≤ maxLen) (hbytes : (n + m) * bytes ≤ 140737488355328) (hbase : base ≤ w.heap.size)
    (hK : ∀ v' w', w'.ownsRow base e size v' (n + m) (xs ++ news) → w.grownBy w' v.ownBlock → (v'.ownBlock = v.ownBlock ∨ v'.ownBlock = some w.heap.size) → K (a.put o.dst v') w') :
    if Region.wanted o (yielded ops a.tmps) = true then Oper.wp P o a w K Q else E := by
  have hw : Region.wanted o (yielded ops a.tmps) = true := by simp [Region.wanted, hg]
  rw [if_pos hw]
  obtain ⟨v', w', hrun, h2, h3, h4⟩ := run_append_rv (P := P) (w := w) (ty := o.type) (c := c) El0 hown hl hr h1 h63 hbytes hbase
  unfold Oper.wp execOp
  simp only [ho, resolve, invoke, builtin, Sem.run_bind, Sem.run_pure, Result.andThen_ok, List.map_toArray, List.map_cons, List.map_nil, hs, hx, hrun]
  exact hK _ _ h2 h3 h4
theorem own_one (w : World) (e : TypeId) (u : Value) : (w.alloc (.cells #[u] e)).ownsRow w.heap.size e 1 (.slice (some ⟨w.heap.size, 0, none⟩) 1 1) 1 [u] :=
  ⟨rfl, .inr ⟨w.heap.size, 1, #[u], rfl, Nat.le_refl _, heap_alloc_new w _, Nat.le_refl _, by unfold maxLen; omega, rfl, rfl⟩⟩
theorem below_grown {w w1 w2 : World} {row : Option Nat} (h : Below w.heap.size w w1) (g : w1.grownBy w2 row) (hr : ∀ k, row = some k → w.heap.size ≤ k) : Below w.heap.size w w2 :=
  ((Kept.of_below h (fun _ => False)).grown g (fun k hk => .inr (hr k hk))).below (fun _k _ hF => hF.elim) (Nat.le_refl _)
set_option maxRecDepth 100000 in
set_option maxHeartbeats 1600000 in
theorem dword_calls (s : Txt) (w : World) (hl : s.length ≤ 10000000000) : Calls Tryz.prog 34 #[.string (bstr s)] w fun e w' => e = .returned (.string (bstr (wordT s))) ∧ Below w.heap.size w w' := by
  have hb := get_bAt s
  have hs : (bstr s).size = s.length := rfl
  have hx : ∀ (n : Nat) (h : n < (⟨#[48, 49, 50, 51, 52, 53, 54, 55, 56, 57, 65, 66, 67, 68, 69, 70]⟩ : ByteArray).size), (((⟨#[48, 49, 50, 51, 52, 53, 54, 55, 56, 57, 65, 66, 67, 68, 69, 70]⟩ : ByteArray)[n]'h).toNat : Int) = bAt hexA n := get_bAt hexA
  have o0 := own_one w 5 (.int .u8 61)
  have B0 := below_new w (.cells #[.int .u8 61] 5)
  go_enter Tryz.func34, Tryz.ntmps34
  go_wp2_with fail
  generalize w.alloc (.cells #[.int .u8 61] 5) = w1 at *
  go_loopw [3, 5] (fun v i wr => ∃ k : Nat, k ≤ s.length ∧ i = .int .i64 (k : Int) ∧ wr.ownsRow w.heap.size 5 1 v (61 :: escT (s.take k)).length (cB (61 :: escT (s.take k))) ∧ Below w.heap.size w wr) (fun _ i _ => s.length - (intOf i).toNat)
  case atStart => exact ⟨0, by omega, rfl, o0, B0⟩
  case round =>
    clear o0 B0
    obtain ⟨k, hk, rfl, hown, hB⟩ := hrel
    have hwr := hB.size
    have hlen : (61 :: escT (s.take k)).length ≤ 30000000001 := by
      have := escT_len (s.take k)
      rw [List.length_cons]
      simp only [List.length_take] at this
      omega
    obtain ⟨A, c, rfl, hnc, hcm⟩ := own_form hown
    by_cases hlt : k < s.length
    · have hbk := bAt_get hlt
      have HT := escT_take hlt
      have dl : decide ((k : Int) < (s.length : Int)) = true := decide_eq_true (by omega)
      generalize s[k] = ch at *
      have HT2 : Hid (61 :: escT (s.take (k + 1)) = (61 :: escT (s.take k)) ++ escC ch) := Lib.hid (by rw [HT]; rfl)
      clear HT
      generalize 61 :: escT (s.take k) = out at *
      have h8 := ch.toNat_lt
      have hg1 : ∀ k, (Value.slice A out.length c).ownBlock = some k → w.heap.size ≤ k := fun k hk => (hown.lt k hk).1
      rcases escC_cases ch with ⟨hp, he⟩ | ⟨hp, he⟩
      · have hp' := (plainC_iff ch).1 hp
        obtain ⟨p1, p2, p3⟩ := hp'
        have p3' : ch.toNat ≠ 37 := fun e => p3 (UInt8.toNat_inj.1 e)
        have e1 : decide (33 ≤ (ch.toNat : Int)) = true := decide_eq_true (by omega)
        have e2 : decide ((ch.toNat : Int) ≤ 126) = true := decide_eq_true (by omega)
        have e3 : ((ch.toNat : Int) != 37) = true := bne_iff_ne.2 (by omega)
        clear p1 p2 p3 p3' hp
        replace he := Lib.hid he
        go_wp2_with ((with_reducible show wpList _ _ _ (⟨some 34, _, _, _, _, _⟩ :: _) _ _); refine wpList_append_rv el_byte rfl (.tmp 29) (.tmp 33) rfl w.heap.size _ _ _ rfl (own_below hown ((Below.refl _ _).alloc (Nat.le_refl _) _) (fun k hk => (hown.lt k hk).2)) (some ⟨wr.heap.size, 0, none⟩) 1 1 (cB [ch]) rfl rfl (RV.new wr (cB [ch]) 5 (0, 0)) (cB_one _) ?f2 ?f3 ?f4 ?_)
        case f2 => unfold maxLen; omega
        case f3 => omega
        case f4 => simp; omega
        intro v' w3 own3 gr hv
        have B3 := below_grown (hB.trans ((below_new wr (.cells (cB [ch]).toArray 5)).mono hwr)) gr hg1
        clear gr hv hown
        go_wp2_with fail
        go_roundw
        case rel => exact ⟨k + 1, by omega, rfl, by rw [HT2.out, he.out, List.length_append, cB_append]; exact own3, B3⟩
        case measure => simp [intOf]; omega
      · replace he : escC ch = [37, hexD (ch.toNat / 16), hexD (ch.toNat % 16)] := he
        obtain ⟨q1, hq1⟩ : ∃ q, q = ch.toNat / 16 := ⟨_, rfl⟩
        obtain ⟨q2, hq2'⟩ : ∃ q, q = ch.toNat % 16 := ⟨_, rfl⟩
        have x1 := hexA_at q1 (by omega)
        have x2 := hexA_at q2 (by omega)
        have wq1 : IntKind.u8.wrap ((ch.toNat : Int) / 16) = (q1 : Int) := by rw [IntKind.wrap_u8]; omega
        have wq2 : ((ch.toNat : Int)).tmod 16 = (q2 : Int) := by rw [Int.tmod_eq_emod_of_nonneg (by omega)]; omega
        have lq1 : (q1 : Int) < 16 := by omega
        have lq2 : (q2 : Int) < 16 := by omega
        have ln1 : q1 < 16 := by omega
        have ln2 : q2 < 16 := by omega
        rw [← hq1, ← hq2'] at he
        replace he := Lib.hid he
        clear hq1 hq2'
        have own1 := own_below hown ((Below.refl wr.heap.size wr).drew.alloc (Nat.le_refl _) (.cells (cB [37, hexD q1, hexD q2]).toArray 5)) (fun k hk => (hown.lt k hk).2)
        have own2 := own_below hown (((Below.refl wr.heap.size wr).alloc (Nat.le_refl _) (.cells (cB [37, hexD q1, hexD q2]).toArray 5)).drew) (fun k hk => (hown.lt k hk).2)
        have rv1 := RV.new wr.drew (cB [37, hexD q1, hexD q2]) 5 (0, 0)
        have rv2 := (RV.new wr (cB [37, hexD q1, hexD q2]) 5 (0, 0)).drew
        have b1 := hB.drew.trans ((below_new wr.drew (.cells (cB [37, hexD q1, hexD q2]).toArray 5)).mono hwr)
        have b2 := (hB.trans ((below_new wr (.cells (cB [37, hexD q1, hexD q2]).toArray 5)).mono hwr)).drew
        have sz1 := b1.size
        have sz2 := b2.size
        have np : ch.toNat < 33 ∨ (33 ≤ ch.toNat ∧ 126 < ch.toNat) ∨ (33 ≤ ch.toNat ∧ ch.toNat ≤ 126 ∧ ch.toNat = 37) := by
          rcases Classical.em (ch.toNat < 33) with h | h
          · exact .inl h
          · rcases Classical.em (126 < ch.toNat) with h2 | h2
            · exact .inr (.inl ⟨by omega, h2⟩)
            · refine .inr (.inr ⟨by omega, by omega, ?_⟩)
              rcases Classical.em (ch.toNat = 37) with h3 | h3
              · exact h3
              · exfalso
                rw [(plainC_iff ch).2 ⟨by omega, by omega, fun e => h3 (by rw [e]; rfl)⟩] at hp
                cases hp
        clear hp
        rcases np with hq | ⟨hq, hq2⟩ | ⟨hq, hq2, hq3⟩
        · have e1 : decide (33 ≤ (ch.toNat : Int)) = false := decide_eq_false (by omega)
          clear hq
          go_upto_region 8 with fail
          go_region_law (refine step_append_rv (A := some ⟨wr.heap.size, 0, none⟩) (m := 3) (c := 3) (news := cB [37, hexD q1, hexD q2]) el_byte rfl (.tmp 35) (.tmp 48) rfl rfl (by first | exact own1 | exact own2) rfl rfl (by first | exact rv1 | exact rv2) (cB_one _) (by unfold maxLen; omega) (by omega) (by first | exact sz1 | exact sz2) ?_; intro v' w3 own3 gr hv)
          all_goals
            (have B3 : Below w.heap.size w w3 := by first | exact below_grown b1 gr hg1 | exact below_grown b2 gr hg1
             go_wp2_with fail
             go_roundw
             case rel => exact ⟨k + 1, by omega, rfl, by rw [HT2.out, he.out, List.length_append, cB_append]; exact own3, B3⟩
             case measure => simp [intOf]; omega)
        · have e1 : decide (33 ≤ (ch.toNat : Int)) = true := decide_eq_true (by omega)
          have e2 : decide ((ch.toNat : Int) ≤ 126) = false := decide_eq_false (by omega)
          clear hq hq2
          go_upto_region 8 with fail
          go_region_law (refine step_append_rv (A := some ⟨wr.heap.size, 0, none⟩) (m := 3) (c := 3) (news := cB [37, hexD q1, hexD q2]) el_byte rfl (.tmp 35) (.tmp 48) rfl rfl (by first | exact own1 | exact own2) rfl rfl (by first | exact rv1 | exact rv2) (cB_one _) (by unfold maxLen; omega) (by omega) (by first | exact sz1 | exact sz2) ?_; intro v' w3 own3 gr hv)
          all_goals
            (have B3 : Below w.heap.size w w3 := by first | exact below_grown b1 gr hg1 | exact below_grown b2 gr hg1
             go_wp2_with fail
             go_roundw
             case rel => exact ⟨k + 1, by omega, rfl, by rw [HT2.out, he.out, List.length_append, cB_append]; exact own3, B3⟩
             case measure => simp [intOf]; omega)
        · have e1 : decide (33 ≤ (ch.toNat : Int)) = true := decide_eq_true (by omega)
          have e2 : decide ((ch.toNat : Int) ≤ 126) = true := decide_eq_true (by omega)
          have e3 : ((ch.toNat : Int) != 37) = false := by rw [hq3]; rfl
          clear hq hq2 hq3
          go_upto_region 8 with fail
          go_region_law (refine step_append_rv (A := some ⟨wr.heap.size, 0, none⟩) (m := 3) (c := 3) (news := cB [37, hexD q1, hexD q2]) el_byte rfl (.tmp 35) (.tmp 48) rfl rfl (by first | exact own1 | exact own2) rfl rfl (by first | exact rv1 | exact rv2) (cB_one _) (by unfold maxLen; omega) (by omega) (by first | exact sz1 | exact sz2) ?_; intro v' w3 own3 gr hv)
          all_goals
            (have B3 : Below w.heap.size w w3 := by first | exact below_grown b1 gr hg1 | exact below_grown b2 gr hg1
             go_wp2_with fail
             go_roundw
             case rel => exact ⟨k + 1, by omega, rfl, by rw [HT2.out, he.out, List.length_append, cB_append]; exact own3, B3⟩
             case measure => simp [intOf]; omega)
    · obtain rfl : k = s.length := by omega
      have dl : decide ((s.length : Int) < (s.length : Int)) = false := decide_eq_false (by omega)
      rw [List.take_length] at hown hlen hnc
      have hR : RB wr A (wordT s) := RV.of_own hown
      have hwl : (wordT s).length ≤ 30000000001 := hlen
      have cv := run_str wr 43 5 9 Tryz.underlying43 Tryz.underlying5 Tryz.underlying9 A (wordT s) ((escT s).length + 1) c hR rfl
      clear hx hb hown hlen hnc
      go_wp2_with fail
      go_ret
      exact ⟨rfl, hB⟩
end Go.Proofs.YtiokbebodblhaaaGreatDoor
