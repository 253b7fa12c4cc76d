/-
  The walk of package disk's Rot.
-/
import Derived.Test.YtfdecpmdicnfbaaDoorDiskWalkH
import Derived.Test.YtfdecpmdicnfbaaDoorDiskCalls
namespace Go.Proofs.YtfdecpmdicnfbaaDoor
open Go.RowKit DiskP

def DiskP.Dsk.rotS (d : Dsk) (n bit : Int) : Dsk := if d.rotE n bit = 0 then d.rotted n.toNat bit.toNat else d
theorem xor_bit (c : UInt8) (r : Nat) : Value.int .u8 (bits .xor .u8 (c.toNat : Int) ((2 : Int) ^ r % 256)) = byteV (c ^^^ UInt8.ofNat (2 ^ r)) := by
  have e : ((2 : Int) ^ r % 256) = (((2 ^ r % 256 : Nat)) : Int) := by simp
  rw [e, u8_xor_nat _ _ c.toNat_lt (Nat.mod_lt _ (by decide))]
  unfold byteV
  rw [UInt8.toNat_xor, UInt8.toNat_ofNat']
theorem Next.drew {w w' : World} {base : Nat} {y : Lay} {S : Dsk} (h : Next w base y S w') : Next w base y S w'.drew := by
  obtain ⟨y', h', a, d, k, f⟩ := h
  exact ⟨y', h'.frame fun _ _ => rfl, a, d, k.drew, f⟩
/-- A sector that has a content of its own. -/
theorem rot_some (y : Lay) (n c bit : Nat) (w : World) (base : Nat) (h : DiskOK w base y) (hn : n < y.lp.length) (hb : bit < 8 * y.size) (ho : y.off = false) (ht : y.tp[n]? = some (some c)) :
    Calls Tryd.prog 22 #[.pointer (some ⟨y.D, 0, none⟩), .int .i64 (n : Int), .int .i64 (bit : Int)] w
      (RetErr w base y (if (y.sect c).bytes.isNone then 9 else if (y.sect c).rot then 11 else 0) (if (y.sect c).bytes.isNone then y.abs else if (y.sect c).rot then y.abs else y.abs.rotted n bit)) := by
  have hh : hasB y (n : Int) = true := by simp [hasB]; omega
  have hc : y.ids c := tp_ids y (List.mem_of_getElem? ht)
  have hck := h.ck c hc
  have hbk := h.bk c hc
  have c0 := h.c0
  have c2 := h.c2
  have c4 := h.c4
  rw [ho] at c4
  have hs2 := h.s2
  have ct : w.cell? ⟨y.T, n, none⟩ = some (.pointer (some ⟨c, 0, none⟩)) := h.tk.at_ (by simp [ht, ptrV])
  have d1 : decide ((bit : Int) < 0) = false := by simp
  have d2 : decide (8 * (y.size : Int) ≤ (bit : Int)) = false := by simp; omega
  have k0 := hck.at_ (i := 0) rfl
  have k1 := hck.at_ (i := 1) rfl
  have k2 := hck.at_ (i := 2) rfl
  have z2 := hck.frozen 2
  cases hs : (y.sect c).bytes with
  | none =>
    rw [hs] at k1
    show Calls _ _ _ _ (RetErr w base y 9 y.abs)
    have k1' : w.cell? ⟨c, 1, none⟩ = some (.bool true) := k1
    clear k1 hck hbk
    go_enter Tryd.func22, Tryd.ntmps22
    go_wp2_with fail
    refine (has_calls y n w base h).mono ?_
    rintro e w' ⟨rfl, rfl⟩
    rw [hh]
    go_wp2
    go_ret
    exact ⟨rfl, Next.same h⟩
  | some l =>
    rw [hs] at k1 hbk
    have k1' : w.cell? ⟨c, 1, none⟩ = some (.bool false) := k1
    cases hr : (y.sect c).rot with
    | true =>
      rw [hr] at k2
      show Calls _ _ _ _ (RetErr w base y 11 y.abs)
      have k2' : w.cell? ⟨c, 2, none⟩ = some (.bool true) := k2
      clear k1 k2 hck hbk
      go_enter Tryd.func22, Tryd.ntmps22
      go_wp2_with fail
      refine (has_calls y n w base h).mono ?_
      rintro e w' ⟨rfl, rfl⟩
      rw [hh]
      go_wp2
      go_ret
      exact ⟨rfl, Next.same h⟩
    | false =>
      rw [hr] at k2
      show Calls _ _ _ _ (RetErr w base y 0 (y.abs.rotted n bit))
      have k2' : w.cell? ⟨c, 2, none⟩ = some (.bool false) := k2
      obtain ⟨hl, hown⟩ := hbk
      obtain ⟨A, cp, hv, _, _⟩ := own_form hown
      rw [hv] at hown k0
      obtain ⟨g, rfl⟩ : ∃ g, A = some ⟨g, 0, none⟩ := by
        rcases hown.2 with ⟨e, _⟩ | ⟨g, _, _, e, _⟩
        · injection e with _ e; have := h.s1; omega
        · injection e with e; exact ⟨g, e⟩
      have k0' : w.cell? ⟨c, 0, none⟩ = some (.slice (some ⟨g, 0, none⟩) y.size cp) := k0
      have hq : bit / 8 < l.length := by omega
      obtain ⟨x, HC⟩ : ∃ x, Hid (l.getD (bit / 8) 0 = x) := ⟨_, rfl⟩
      have hcell : w.cell? ⟨g, bit / 8, none⟩ = some (.int .u8 (x.toNat : Int)) := by
        rw [hown.cellAt _ (by omega)]
        have h' : bit / 8 < (cB l).length := by rw [cB_len]; exact hq
        rw [List.getElem?_eq_getElem h', cB_get, ← HC.out]
        congr 3
        simp [List.getD, hq]
      have hfz := hown.frozenAt (bit / 8)
      have hgc : g ≠ c := own_ne hown rfl hck (by decide)
      have HN := Lib.hid (turn_ok h hn ht hs hv (x ^^^ UInt8.ofNat (2 ^ (bit % 8))) (by unfold turnBit; rw [HC.out]))
      have HV : Hid (Value.int .u8 (bits .xor .u8 (x.toNat : Int) ((2 : Int) ^ (bit % 8) % 256)) = byteV (x ^^^ UInt8.ofNat (2 ^ (bit % 8)))) := xor_bit x _
      have hq' : decide (bit / 8 < y.size) = true := by simp; omega
      clear k0 k1 k2 hck hown hl hq
      go_enter Tryd.func22, Tryd.ntmps22
      go_wp2_with fail
      refine (has_calls y n w base h).mono ?_
      rintro e w' ⟨rfl, rfl⟩
      rw [hh]
      go_wp2
      go_region
      all_goals go_wp2
      rw [HV.out]
      go_ret
      exact ⟨rfl, HN.out.drew⟩
/-- A sector that was never written. -/
theorem rot_none (y : Lay) (n bit : Nat) (w : World) (base : Nat) (h : DiskOK w base y) (hn : n < y.lp.length) (hb : bit < 8 * y.size) (ho : y.off = false) (ht : y.tp[n]? = some none) :
    Calls Tryd.prog 22 #[.pointer (some ⟨y.D, 0, none⟩), .int .i64 (n : Int), .int .i64 (bit : Int)] w (RetErr w base y 0 (y.abs.rotted n bit)) := by
  have hh : hasB y (n : Int) = true := by simp [hasB]; omega
  have hs1 := h.s1
  have hs2 := h.s2
  have c0 := h.c0
  have c2 := h.c2
  have c4 := h.c4
  rw [ho] at c4
  have ct : w.cell? ⟨y.T, n, none⟩ = some (.pointer none) := h.tk.at_ (by simp [ht, ptrV])
  obtain ⟨_, hl⟩ := tp_none y hn ht
  have cl : w.cell? ⟨y.L, n, none⟩ = some (.pointer none) := h.lk.at_ (by simp [hl, ptrV])
  have c1 := h.c1
  have zT := h.tk.frozen n
  have zL := h.lk.frozen n
  have lT := h.tk.lt
  have lL := h.lk.lt
  have lD := h.dk.lt
  have hLT := h.lt
  have hDT : y.D ≠ y.T := blk_ne h.dk h.tk (by decide)
  have hDL : y.D ≠ y.L := blk_ne h.dk h.lk (by decide)
  have d1 : decide ((bit : Int) < 0) = false := by simp
  have d2 : decide (8 * (y.size : Int) ≤ (bit : Int)) = false := by simp; omega
  have hmk := run_make_n el_u8 rfl y.size (by omega) (by omega)
  have b2 : Below w.heap.size w ((w.alloc (.cells (rep y.size (.int .u8 0)) 5)).alloc (.cells #[.slice (some ⟨w.heap.size, 0, none⟩) y.size y.size, .bool false, .bool false] 86)) :=
    ((Below.refl _ _).alloc (Nat.le_refl _) _).alloc (by simp) _
  have own1 : ((w.alloc (.cells (rep y.size (.int .u8 0)) 5)).alloc (.cells #[.slice (some ⟨w.heap.size, 0, none⟩) y.size y.size, .bool false, .bool false] 86)).ownsRow w.heap.size 5 1 (.slice (some ⟨w.heap.size, 0, none⟩) y.size y.size) y.size (cB (List.replicate y.size 0)) := by
    have := own_made w (base := w.heap.size) 5 y.size (.int .u8 0) (Nat.le_refl _) (by unfold maxLen; omega)
    rw [show cB (List.replicate y.size 0) = List.replicate y.size (.int .u8 0) by simp [cB, byteV]]
    exact this.alloc _
  have hcb := Blk.new (w.alloc (.cells (rep y.size (.int .u8 0)) 5)) 86 #[.slice (some ⟨w.heap.size, 0, none⟩) y.size y.size, .bool false, .bool false]
  obtain ⟨h3, a3, k3, f3⟩ := fresh_ok (c := w.heap.size + 1) h b2 hn ht (by simpa using hcb) (by omega) own1
  have t3 := fresh_tp y (c := w.heap.size + 1) (v := .slice (some ⟨w.heap.size, 0, none⟩) y.size y.size) hn ht
  have s3 : (freshed y n (w.heap.size + 1) (.slice (some ⟨w.heap.size, 0, none⟩) y.size y.size)).sect (w.heap.size + 1) = zeroS y.size := if_pos rfl
  have v3 : (freshed y n (w.heap.size + 1) (.slice (some ⟨w.heap.size, 0, none⟩) y.size y.size)).bv (w.heap.size + 1) = (.slice (some ⟨w.heap.size, 0, none⟩) y.size y.size) := if_pos rfl
  have e3 : ((((w.setCell ⟨y.T, n, none⟩ (.pointer (some ⟨w.heap.size + 1, 0, none⟩))).setCell ⟨y.L, n, none⟩ (.pointer (some ⟨w.heap.size + 1, 0, none⟩))).alloc (.cells (rep y.size (.int .u8 0)) 5)).alloc (.cells #[.slice (some ⟨w.heap.size, 0, none⟩) y.size y.size, .bool false, .bool false] 86)) =
      ((((w.alloc (.cells (rep y.size (.int .u8 0)) 5)).alloc (.cells #[.slice (some ⟨w.heap.size, 0, none⟩) y.size y.size, .bool false, .bool false] 86)).setCell ⟨y.T, n, none⟩ (.pointer (some ⟨w.heap.size + 1, 0, none⟩))).setCell ⟨y.L, n, none⟩ (.pointer (some ⟨w.heap.size + 1, 0, none⟩))) := by
    rw [World.setCell_alloc_past _ _ _ _ (by simp; omega), World.setCell_alloc_past _ _ _ _ lT, World.setCell_alloc_past _ _ _ _ (by simp; omega), World.setCell_alloc_past _ _ _ _ (by simpa using lL)]
  have hc3 := h3.ck (w.heap.size + 1) (.inl (by show some (w.heap.size + 1) ∈ y.lp.set n (some (w.heap.size + 1)); exact List.mem_set hn _))
  have hb3 := h3.bk (w.heap.size + 1) (.inl (by show some (w.heap.size + 1) ∈ y.lp.set n (some (w.heap.size + 1)); exact List.mem_set hn _))
  rw [s3, v3] at hc3 hb3
  obtain ⟨_, hown⟩ := hb3
  have HN : Hid _ := Lib.hid (Next.trans (y := y) (y1 := freshed y n (w.heap.size + 1) (.slice (some ⟨w.heap.size, 0, none⟩) y.size y.size)) rfl k3 f3 (turn_ok (n := n) (bit := bit) (l := List.replicate y.size 0) h3 (by simpa [freshed] using hn) (by rw [t3]; simp [tp_len, hn]) (by rw [s3]; rfl) v3 (0 ^^^ UInt8.ofNat (2 ^ (bit % 8))) (by
    unfold turnBit; congr 2; simp [List.getD, show bit / 8 < y.size by omega])))
  rw [a3] at HN
  rw [← e3] at HN hown hc3
  have hq : bit / 8 < y.size := by omega
  have HV : Hid (Value.int .u8 (bits .xor .u8 0 ((2 : Int) ^ (bit % 8) % 256)) = byteV (0 ^^^ UInt8.ofNat (2 ^ (bit % 8)))) := xor_bit 0 _
  have hq' : decide (bit / 8 < y.size) = true := by simp; omega
  clear h3 a3 k3 f3 t3 s3 v3 hcb own1 b2 hl e3
  go_enter Tryd.func22, Tryd.ntmps22
  go_wp2_with fail
  refine (has_calls y n w base h).mono ?_
  rintro e w' ⟨rfl, rfl⟩
  rw [hh]
  go_wp2
  go_region
  generalize ((((w.setCell ⟨y.T, n, none⟩ (.pointer (some ⟨w.heap.size + 1, 0, none⟩))).setCell ⟨y.L, n, none⟩ (.pointer (some ⟨w.heap.size + 1, 0, none⟩))).alloc (.cells (rep y.size (.int .u8 0)) 5)).alloc (.cells #[.slice (some ⟨w.heap.size, 0, none⟩) y.size y.size, .bool false, .bool false] 86)) = w3 at HN hown hc3 ⊢
  have k0 := hc3.at_ (i := 0) rfl
  have k1 := hc3.at_ (i := 1) rfl
  have k2 := hc3.at_ (i := 2) rfl
  have k1' : w3.cell? ⟨w.heap.size + 1, 1, none⟩ = some (.bool false) := k1
  have k2' : w3.cell? ⟨w.heap.size + 1, 2, none⟩ = some (.bool false) := k2
  have z2 := hc3.frozen 2
  have hcell : w3.cell? ⟨w.heap.size, bit / 8, none⟩ = some (.int .u8 0) := by
    rw [hown.cellAt _ (by omega)]
    simp [cB, byteV, hq]
  have hfz := hown.frozenAt (bit / 8)
  have hgc : w.heap.size ≠ w.heap.size + 1 := by omega
  clear k1 k2 hc3 hown hq ct cl c1 zT zL lT lL lD c0 c2 c4
  all_goals go_wp2
  go_region
  all_goals go_wp2
  rw [HV.out]
  go_ret
  exact ⟨rfl, HN.out.drew.drew⟩
theorem rot_calls (y : Lay) (n bit : Int) (w : World) (base : Nat) (h : DiskOK w base y) :
    Calls Tryd.prog 22 #[.pointer (some ⟨y.D, 0, none⟩), .int .i64 n, .int .i64 bit] w (RetErr w base y (y.abs.rotE n bit) (y.abs.rotS n bit)) := by
  have h1 := hasB_abs y n
  have hsz : y.abs.size = y.size := rfl
  have hof : y.abs.off = y.off := rfl
  have c0 := h.c0
  have c4 := h.c4
  have hs2 := h.s2
  have same : ∀ k : Int, k ≠ 0 → y.abs.rotE n bit = k → y.abs.rotE n bit = k ∧ y.abs.rotS n bit = y.abs := fun k hk he => ⟨he, by unfold DiskP.Dsk.rotS; rw [he, if_neg hk]⟩
  cases hh : hasB y n
  · obtain ⟨e1, e2⟩ := same 1 (by decide) (by unfold Dsk.rotE; rw [h1, hh]; rfl)
    rw [e1, e2]
    clear h1 same e1 e2
    go_enter Tryd.func22, Tryd.ntmps22
    go_wp2_with fail
    refine (has_calls y n w base h).mono ?_
    rintro e w' ⟨rfl, rfl⟩
    rw [hh]
    go_wp2
    go_ret
    exact ⟨rfl, Next.same h⟩
  · by_cases hb0 : bit < 0
    · obtain ⟨e1, e2⟩ := same 1 (by decide) (by unfold Dsk.rotE; rw [h1, hh, if_neg (by decide), if_pos hb0])
      rw [e1, e2]
      clear h1 same e1 e2
      have d1 : decide (bit < 0) = true := by simpa using hb0
      go_enter Tryd.func22, Tryd.ntmps22
      go_wp2_with fail
      refine (has_calls y n w base h).mono ?_
      rintro e w' ⟨rfl, rfl⟩
      rw [hh]
      go_wp2
      go_ret
      exact ⟨rfl, Next.same h⟩
    · by_cases hb1 : 8 * (y.size : Int) ≤ bit
      · obtain ⟨e1, e2⟩ := same 1 (by decide) (by unfold Dsk.rotE; rw [h1, hh, if_neg (by decide), if_neg hb0, hsz, if_pos hb1])
        rw [e1, e2]
        clear h1 same e1 e2
        have d1 : decide (bit < 0) = false := by simpa using hb0
        have d2 : decide (8 * (y.size : Int) ≤ bit) = true := by simpa using hb1
        go_enter Tryd.func22, Tryd.ntmps22
        go_wp2_with fail
        refine (has_calls y n w base h).mono ?_
        rintro e w' ⟨rfl, rfl⟩
        rw [hh]
        go_wp2
        go_ret
        exact ⟨rfl, Next.same h⟩
      · cases ho : y.off
        · obtain ⟨hn0, hn1⟩ : 0 ≤ n ∧ n < y.lp.length := by simpa [hasB] using hh
          obtain ⟨n, rfl⟩ := Int.eq_ofNat_of_zero_le hn0
          obtain ⟨bit, rfl⟩ := Int.eq_ofNat_of_zero_le (show 0 ≤ bit by omega)
          have hn : n < y.lp.length := by omega
          obtain ⟨p, hp⟩ : ∃ p, y.tp[n]? = some p := ⟨_, List.getElem?_eq_getElem (by rw [tp_len]; exact hn)⟩
          have habs : y.abs.told[n]? = some (ptrS y.size y.sect p) := by rw [abs_told]; simp [hp]
          have e1 : y.abs.rotE (n : Int) (bit : Int) = if (ptrS y.size y.sect p).bytes.isNone then 9 else if (ptrS y.size y.sect p).rot then 11 else 0 := by
            unfold Dsk.rotE
            rw [h1, hh, if_neg (by decide), if_neg hb0, hsz, if_neg hb1, hof, ho, if_neg (by decide), Int.toNat_natCast, habs]
          cases p with
          | none =>
            have e2 : y.abs.rotE (n : Int) (bit : Int) = 0 := e1
            unfold DiskP.Dsk.rotS
            rw [e2, if_pos rfl]
            exact rot_none y n bit w base h hn (by omega) ho hp
          | some c =>
            have e3 : y.abs.rotS (n : Int) (bit : Int) = if (y.sect c).bytes.isNone then y.abs else if (y.sect c).rot then y.abs else y.abs.rotted n bit := by
              unfold DiskP.Dsk.rotS
              by_cases q1 : (y.sect c).bytes.isNone = true
              · rw [e1.trans (if_pos q1), if_neg (by decide), if_pos q1]
              · by_cases q2 : (y.sect c).rot = true
                · rw [e1.trans ((if_neg q1).trans (if_pos q2)), if_neg (by decide), if_neg q1, if_pos q2]
                · rw [e1.trans ((if_neg q1).trans (if_neg q2)), if_pos rfl, if_neg q1, if_neg q2]; rfl
            rw [e1, e3]
            exact rot_some y n c bit w base h hn (by omega) ho hp
        · obtain ⟨e1, e2⟩ := same 10 (by decide) (by unfold Dsk.rotE; rw [h1, hh, if_neg (by decide), if_neg hb0, hsz, if_neg hb1, hof, ho]; rfl)
          rw [e1, e2]
          clear h1 same e1 e2
          rw [ho] at c4
          have d1 : decide (bit < 0) = false := by simpa using hb0
          have d2 : decide (8 * (y.size : Int) ≤ bit) = false := by simpa using hb1
          go_enter Tryd.func22, Tryd.ntmps22
          go_wp2_with fail
          refine (has_calls y n w base h).mono ?_
          rintro e w' ⟨rfl, rfl⟩
          rw [hh]
          go_wp2
          go_ret
          exact ⟨rfl, Next.same h⟩
end Go.Proofs.YtfdecpmdicnfbaaDoor
