/-
  Walk: strconv.ParseUint of two letters, base 16, 8 bits.
-/
import Derived.Test.YtiokbebodblhaaaGreatDoorTracePu
import Derived.Test.YtiokbebodblhaaaGreatDoorTTx
import Derived.Deep.RegionLaw
import Derived.Test.YtiokbebodblhaaaGreatDoorTPlain
namespace Go.Proofs.YtiokbebodblhaaaGreatDoor
open Go.RowKit TraceP

theorem hex2_some {a b x : UInt8} {m n : Nat} (ha : hexV a = some m) (hb : hexV b = some n) (hm : m < 16) (hn : n < 16) (h : hex2 a b = some x) : (x.toNat : Int) = (m : Int) * 16 + n := by
  unfold hex2 at h
  rw [ha, hb] at h
  injection h with h
  subst h
  rw [UInt8.toNat_ofNat']
  omega
theorem puin_some (a b x : UInt8) (h : hex2 a b = some x) (w : World) :
    Calls Tryz.prog 162 #[.string (bstr [a, b]), .int .i64 16, .int .i64 8] w fun e w' => e = .returned (.tuple #[.int .u64 (x.toNat : Int), .nilIface]) ∧ Below w.heap.size w w' := by
  rcases hex_ways a with ⟨⟨a0, a1⟩, ea⟩ | ⟨a0, a1, a2, a3, ea⟩ | ⟨a0, a1, a2, a3, ea⟩ | ⟨a0, a2, ea⟩
  · rcases hex_ways b with ⟨⟨b0, b1⟩, eb⟩ | ⟨b0, b1, b2, b3, eb⟩ | ⟨b0, b1, b2, b3, eb⟩ | ⟨b0, b2, eb⟩
    · have e := hex2_some ea eb (by omega) (by omega) h
      have e2 : (x.toNat : Int) = ((a.toNat : Int) - 48) * 16 + ((b.toNat : Int) - 48) := by omega
      rw [e2]
      exact puin_dig_dig a b w a0 a1 b0 b1
    · have e := hex2_some ea eb (by omega) (by omega) h
      have e2 : (x.toNat : Int) = ((a.toNat : Int) - 48) * 16 + (lowI b - 97 + 10) := by omega
      rw [e2]
      exact puin_dig_let a b w a0 a1 (lowI b) rfl b0 b1 b2 b3
    · unfold hex2 at h; rw [ea, eb] at h; cases h
    · unfold hex2 at h; rw [ea, eb] at h; cases h
  · rcases hex_ways b with ⟨⟨b0, b1⟩, eb⟩ | ⟨b0, b1, b2, b3, eb⟩ | ⟨b0, b1, b2, b3, eb⟩ | ⟨b0, b2, eb⟩
    · have e := hex2_some ea eb (by omega) (by omega) h
      have e2 : (x.toNat : Int) = (lowI a - 97 + 10) * 16 + ((b.toNat : Int) - 48) := by omega
      rw [e2]
      exact puin_let_dig a b w (lowI a) rfl a0 a1 a2 a3 b0 b1
    · have e := hex2_some ea eb (by omega) (by omega) h
      have e2 : (x.toNat : Int) = (lowI a - 97 + 10) * 16 + (lowI b - 97 + 10) := by omega
      rw [e2]
      exact puin_let_let a b w (lowI a) rfl a0 a1 a2 a3 (lowI b) rfl b0 b1 b2 b3
    · unfold hex2 at h; rw [ea, eb] at h; cases h
    · unfold hex2 at h; rw [ea, eb] at h; cases h
  · unfold hex2 at h; rw [ea] at h; cases h
  · unfold hex2 at h; rw [ea] at h; cases h
theorem puin_none (a b : UInt8) (h : hex2 a b = none) (w : World) :
    Calls Tryz.prog 162 #[.string (bstr [a, b]), .int .i64 16, .int .i64 8] w fun e w' => e = .returned (.tuple #[.int .u64 0, .iface 210 (.int .i64 2)]) ∧ Below w.heap.size w w' := by
  rcases hex_ways a with ⟨⟨a0, a1⟩, ea⟩ | ⟨a0, a1, a2, a3, ea⟩ | ⟨a0, a1, a2, a3, ea⟩ | ⟨a0, a2, ea⟩
  · rcases hex_ways b with ⟨⟨b0, b1⟩, eb⟩ | ⟨b0, b1, b2, b3, eb⟩ | ⟨b0, b1, b2, b3, eb⟩ | ⟨b0, b2, eb⟩
    · unfold hex2 at h; rw [ea, eb] at h; cases h
    · unfold hex2 at h; rw [ea, eb] at h; cases h
    · exact puin_dig_big a b w a0 a1 (lowI b) rfl b0 b1 b2 b3
    · exact puin_dig_non a b w a0 a1 (lowI b) rfl b0 b2
  · rcases hex_ways b with ⟨⟨b0, b1⟩, eb⟩ | ⟨b0, b1, b2, b3, eb⟩ | ⟨b0, b1, b2, b3, eb⟩ | ⟨b0, b2, eb⟩
    · unfold hex2 at h; rw [ea, eb] at h; cases h
    · unfold hex2 at h; rw [ea, eb] at h; cases h
    · exact puin_let_big a b w (lowI a) rfl a0 a1 a2 a3 (lowI b) rfl b0 b1 b2 b3
    · exact puin_let_non a b w (lowI a) rfl a0 a1 a2 a3 (lowI b) rfl b0 b2
  · exact puin_big a b w (lowI a) rfl a0 a1 a2 a3
  · exact puin_non a b w (lowI a) rfl a0 a2
theorem pu_some (a b x : UInt8) (h : hex2 a b = some x) (w : World) :
    Calls Tryz.prog 151 #[.string (bstr [a, b]), .int .i64 16, .int .i64 8] w fun e w' => e = .returned (.tuple #[.int .u64 (x.toNat : Int), .nilIface]) ∧ Below w.heap.size w w' := by
  go_enter Tryz.func151, Tryz.ntmps151
  go_wp2_with (go_at_call 162; refine (puin_some a b x h w).mono ?_; rintro _ w1 ⟨rfl, B1⟩)
  go_ret2
  exact ⟨rfl, B1⟩
theorem pu_none (a b : UInt8) (h : hex2 a b = none) (w : World) (hS : Std w) :
    Calls Tryz.prog 151 #[.string (bstr [a, b]), .int .i64 16, .int .i64 8] w fun e w' => ∃ N, e = .returned (.tuple #[.int .u64 0, .iface 211 (.pointer (some ⟨N, 0, none⟩))]) ∧ Below w.heap.size w w' := by
  have sz2 : (bstr [a, b]).size ≤ 281474976710656 := by rw [bstr_size]; show 2 ≤ _; omega
  go_enter Tryz.func151, Tryz.ntmps151
  go_wp2_with (first
    | (go_at_call 162; refine (puin_none a b h w).mono ?_; rintro _ w1 ⟨rfl, B1⟩)
    | (go_at_call 148; refine (toerr_calls _ _ _ _ w1 sz2 (hS.below B1)).mono ?_; rintro _ w2 ⟨N, rfl, d2⟩; have B2 := B1.trans (d2.mono B1.size)))
  go_ret2
  exact ⟨N, rfl, B2⟩
theorem bstr_cutT (l : List UInt8) (i j : Nat) : (bstr l).extract i j = bstr ((l.drop i).take (j - i)) := by
  unfold bstr
  apply ByteArray.ext
  simp [ByteArray.data_extract]
theorem cut_head (c : UInt8) (t : Txt) : (((bstr (c :: t)).extract 0 1).toList == [61]) = (c == 61) := by
  rw [bstr_cutT, bstr_list]
  simp
theorem cut_tail (c : UInt8) (t : Txt) : (bstr (c :: t)).extract 1 (bstr (c :: t)).size = bstr t := by
  rw [bstr_cutT, bstr_size]
  congr 1
  simp
theorem cutp_yes (t : Txt) (w : World) : Calls Tryz.prog 149 #[.string (bstr (61 :: t)), .string ⟨#[61]⟩] w fun e w' => e = .returned (.tuple #[.string (bstr t), .bool true]) ∧ w = w' := by
  have h1 : (((bstr (61 :: t)).extract 0 1).toList == [61]) = true := by rw [cut_head]; rfl
  have h2 := cut_tail 61 t
  have sz : (1 : Int) ≤ ((bstr (61 :: t)).size : Int) := by rw [bstr_size, List.length_cons]; omega
  go_enter Tryz.func149, Tryz.ntmps149
  go_wp2
  go_ret2
  exact ⟨rfl, rfl⟩
theorem cutp_no (t : Txt) (w : World) (h : ∀ r, t ≠ 61 :: r) : Calls Tryz.prog 149 #[.string (bstr t), .string ⟨#[61]⟩] w fun e w' => e = .returned (.tuple #[.string (bstr t), .bool false]) ∧ w = w' := by
  cases t with
  | nil =>
    have sz : ((bstr []).size : Int) = 0 := by rw [bstr_size]; rfl
    go_enter Tryz.func149, Tryz.ntmps149
    go_wp2
    go_ret2
    exact ⟨rfl, rfl⟩
  | cons c r =>
    have h1 : (((bstr (c :: r)).extract 0 1).toList == [61]) = false := by
      rw [cut_head]
      cases hc : c == 61 with
      | false => rfl
      | true => exact absurd (by rw [beq_iff_eq.1 hc]) (h r)
    have sz : (1 : Int) ≤ ((bstr (c :: r)).size : Int) := by rw [bstr_size, List.length_cons]; omega
    clear h
    go_enter Tryz.func149, Tryz.ntmps149
    go_wp2
    go_ret2
    exact ⟨rfl, rfl⟩
end Go.Proofs.YtiokbebodblhaaaGreatDoor
namespace Go.Proofs.YtiokbebodblhaaaGreatDoor
open Go.RowKit TraceP

/-- A builder stays where nothing that was there turns. -/
theorem bld_below {B b : Nat} {l : Txt} {w w' : World} (h : Bld B b l w) (d : Below w.heap.size w w') : Bld B b l w' := by
  have G : w.grownBy w' none := ⟨d.os, d.tape, d.output, d.size, fun k hk _ => d.block k hk⟩
  rcases h with h | h
  · obtain ⟨h0, v, h1, h2, h3⟩ := h
    exact .inl ⟨h0, v, (d.block b (lt_of_block h1)).trans h1, h2.kept (row := none) G (Classical.em _), h3⟩
  · obtain ⟨h0, v, h1, h2, h3⟩ := h
    exact .inr ⟨h0, v, (d.block b (lt_of_block h1)).trans h1, h2.kept (row := none) G (Classical.em _), h3⟩
theorem unesc_c (c : UInt8) (r : Txt) (h : c ≠ 37) : unesc (c :: r) = (unesc r).map (c :: ·) := by
  match r with
  | [] => simp [unesc, h]
  | [a] => simp [unesc, h]
  | a :: b :: r' => simp [unesc, h]
theorem unesc_free : ∀ (r : Txt), 37 ∉ r → unesc r = some r
  | [], _ => rfl
  | c :: r, h => by
    rw [unesc_c c r (fun e => h (by rw [e]; exact List.mem_cons_self ..)), unesc_free r (fun e => h (List.mem_cons_of_mem _ e))]
    rfl
theorem unesc_plain {r out t : Txt} {k : Nat} {c : UInt8} (hd : r.drop k = c :: t) (h : c ≠ 37) (I : unesc r = (unesc (r.drop k)).map (out ++ ·)) : unesc r = (unesc (r.drop (k + 1))).map ((out ++ [c]) ++ ·) := by
  have h1 : r.drop (k + 1) = t := by rw [← List.drop_drop, hd]; rfl
  rw [I, hd, h1, unesc_c c t h]
  cases unesc t <;> simp
theorem unesc_hex {r out t : Txt} {k : Nat} {a b x : UInt8} (hd : r.drop k = 37 :: a :: b :: t) (h : hex2 a b = some x) (I : unesc r = (unesc (r.drop k)).map (out ++ ·)) : unesc r = (unesc (r.drop (k + 3))).map ((out ++ [x]) ++ ·) := by
  have h1 : r.drop (k + 3) = t := by rw [← List.drop_drop, hd]; rfl
  rw [I, hd, h1]
  rw [unesc, if_neg (by simp)]
  simp only [h]
  cases unesc t <;> simp
theorem unesc_short {r out t : Txt} {k : Nat} (hd : r.drop k = 37 :: t) (ht : t.length < 2) (I : unesc r = (unesc (r.drop k)).map (out ++ ·)) : unesc r = none := by
  rw [I, hd]
  match t, ht with
  | [], _ => rfl
  | [_], _ => rfl
theorem unesc_wrong {r out t : Txt} {k : Nat} {a b : UInt8} (hd : r.drop k = 37 :: a :: b :: t) (h : hex2 a b = none) (I : unesc r = (unesc (r.drop k)).map (out ++ ·)) : unesc r = none := by
  rw [I, hd, unesc, if_neg (by simp)]
  simp only [h]
  rfl
theorem unesc_end {r out : Txt} (I : unesc r = (unesc (r.drop r.length)).map (out ++ ·)) : unesc r = some out := by
  rw [I, List.drop_length]
  simp [unesc]
theorem index_neg (r : Txt) (h : 37 ∉ r) : Lib.indexByte r 37 = -1 := by
  induction r with
  | nil => rfl
  | cons c r ih =>
    rw [Lib.indexByte, if_neg (by intro e; exact h (by rw [beq_iff_eq.1 e]; exact List.mem_cons_self ..)), ih (fun e => h (List.mem_cons_of_mem _ e))]
    rfl
theorem index_pos (r : Txt) (h : 37 ∈ r) : 0 ≤ Lib.indexByte r 37 := by
  induction r with
  | nil => cases h
  | cons c r ih =>
    rw [Lib.indexByte]
    split
    · exact Int.le_refl _
    · rename_i hc
      rcases List.mem_cons.1 h with e | e
      · exact absurd (beq_iff_eq.2 e.symm) hc
      · have := ih e
        rw [if_neg (by intro e2; have := beq_iff_eq.1 e2; omega)]
        omega
theorem index_calls (r : Txt) (w : World) : Calls Tryz.prog 150 #[.string (bstr r), .int .u8 37] w fun e w' => e = .returned (.int .i64 (Lib.indexByte r 37)) ∧ w = w' := by
  refine (Tryz.strings_IndexByte (bstr r) 37 w).mono ?_
  rintro e w' ⟨rfl, rfl⟩
  refine ⟨?_, rfl⟩
  rw [bstr_data]
  rfl
theorem rplain_no (w0 w : World) (g : Nat) (F : Nat → Prop) (s : RdS) (H : RdOK w0 w g F s) (t : Txt) (h : ∀ r, t ≠ 61 :: r) :
    Calls Tryz.prog 123 #[.pointer (some ⟨g, 0, none⟩), .string (bstr t)] w fun e w' => e = .returned (.string (bstr [])) ∧ Reads w0 g F (s.1, true) w w' := by
  have R := H.set_
  obtain ⟨u, bk⟩ := H.bad_
  have c1 := bk.at_ (i := 1) (v := .bool s.2) rfl
  have f1 := bk.frozen 1
  go_enter Tryz.func123, Tryz.ntmps123
  go_wp2_with (go_at_call 149; refine (cutp_no t w h).mono ?_; rintro _ w1 ⟨rfl, rfl⟩)
  go_ret
  exact ⟨rfl, R⟩
theorem rplain_free (w0 w : World) (g : Nat) (F : Nat → Prop) (s : RdS) (H : RdOK w0 w g F s) (r : Txt) (h : 37 ∉ r) :
    Calls Tryz.prog 123 #[.pointer (some ⟨g, 0, none⟩), .string (bstr (61 :: r))] w fun e w' => e = .returned (.string (bstr r)) ∧ Reads w0 g F s w w' := by
  have hi := index_neg r h
  go_enter Tryz.func123, Tryz.ntmps123
  go_wp2_with (first
    | (go_at_call 149; refine (cutp_yes r w).mono ?_; rintro _ w1 ⟨rfl, rfl⟩)
    | (go_at_call 150; refine (index_calls r w).mono ?_; rintro _ w2 ⟨rfl, rfl⟩))
  go_ret
  exact ⟨rfl, H, Kept.refl _ _⟩
set_option maxRecDepth 100000 in
set_option maxHeartbeats 3200000 in
theorem rplain_loop (w0 w : World) (g : Nat) (F : Nat → Prop) (s : RdS) (H : RdOK w0 w g F s) (hS : Std w0) (r : Txt) (hl : r.length ≤ 65536) (h : 37 ∈ r) :
    Calls Tryz.prog 123 #[.pointer (some ⟨g, 0, none⟩), .string (bstr (61 :: r))] w fun e w' => e = .returned (.string (bstr (pPlain (61 :: r) s).1)) ∧ Reads w0 g F (pPlain (61 :: r) s).2 w w' := by
  have hi := index_pos r h
  have b0 := bld_new w
  have B1 : Below w.heap.size w (w.alloc (.cells #[.pointer none, .slice none 0 0] 113)) := (Below.refl _ _).alloc (Nat.le_refl _) _
  have hb := get_bAt r
  have hs : (bstr r).size = r.length := rfl
  go_enter Tryz.func123, Tryz.ntmps123
  go_wp2_with (first
    | (go_at_call 149; refine (cutp_yes r w).mono ?_; rintro _ w1 ⟨rfl, rfl⟩)
    | (go_at_call 150; refine (index_calls r w).mono ?_; rintro _ w2 ⟨rfl, rfl⟩))
  generalize w.alloc (.cells #[.pointer none, .slice none 0 0] 113) = w1 at *
  clear hi h
  go_loopw [7] (fun i wr => ∃ (k : Nat) (out : Txt), k ≤ r.length ∧ i = .int .i64 (k : Int) ∧ Bld w.heap.size w.heap.size out wr ∧ Below w.heap.size w wr ∧ out.length ≤ k ∧ Hid (unesc r = (unesc (r.drop k)).map (out ++ ·))) (fun i _ => r.length - (intOf i).toNat)
  case atStart => exact ⟨0, [], by omega, rfl, b0, B1, Nat.le_refl _, by show _ = _; rw [List.drop_zero]; cases unesc r <;> rfl⟩
  case round =>
    clear b0 B1
    obtain ⟨k, out, hk, rfl, hbd, hB, hol, I⟩ := hrel
    have hwr := hB.size
    by_cases hlt : k < r.length
    · have hd := List.drop_eq_getElem_cons hlt
      have hbk := bAt_get hlt
      have HD := Lib.hid hd
      clear hd
      generalize r[k] = c at *
      by_cases h37 : c = 37
      · subst h37
        have e3 : (((37 : UInt8).toNat : Int) != 37) = false := rfl
        by_cases hsh : k + 2 < r.length
        · have hl1 : k + 1 < r.length := by omega
          have d1 : r.drop (k + 1) = r[k + 1] :: r.drop (k + 2) := List.drop_eq_getElem_cons hl1
          have d2 : r.drop (k + 2) = r[k + 2] :: r.drop (k + 3) := List.drop_eq_getElem_cons hsh
          have hx : (bstr r).extract (k + 1) (k + 3) = bstr [r[k + 1], r[k + 2]] := by
            rw [bstr_cutT, d1, d2]
            congr 1
            rw [show k + 3 - (k + 1) = 2 by omega]
            rfl
          have HD2 := HD.out
          rw [d1, d2] at HD2
          replace HD2 := Lib.hid HD2
          clear d1 d2 HD
          generalize r[k + 1] = a at *
          generalize r[k + 2] = b at *
          have hsl := fun (w : World) => run_slice_string (P := Tryz.prog) w 9 (bstr r) .i64 .i64 ((k : Int) + 1) ((k : Int) + 3) Tryz.underlying9 (by omega) (by omega) (by rw [bstr_size]; omega)
          rw [show ((k : Int) + 1).toNat = k + 1 by omega, show ((k : Int) + 3).toNat = k + 3 by omega, hx] at hsl
          clear hx
          cases hh : hex2 a b with
          | some x =>
            have I2 := Lib.hid (unesc_hex HD2.out hh I.out)
            have U := pu_some a b x hh wr
            have x8 := x.toNat_lt
            clear I HD2 hh
            go_wp2_with (go_at_call 151; refine U.mono ?_; rintro _ w2 ⟨rfl, d2⟩)
            have hB2 := hB.trans (d2.mono hwr)
            have hw2 := hB2.size
            refine (wbyte_calls w.heap.size w.heap.size out x _ rfl w2 (bld_below hbd d2) (by omega) hw2).mono ?_
            clear hbd
            rintro e w3 ⟨rfl, b3, B3'⟩
            have B3 := hB2.trans B3'
            clear B3' d2 hB2
            go_wp2_with fail
            go_roundw
            case rel => exact ⟨k + 3, out ++ [x], by omega, by congr 1, b3, B3, by simp; omega, I2⟩
            case measure => simp [intOf]; omega
          | none =>
            have hn := unesc_wrong HD2.out hh I.out
            have U := pu_none a b hh wr ((hS.below H.below).below (hB.mono (Nat.le_refl _)))
            have hP : pPlain (61 :: r) s = ([], s.1, true) := by simp [pPlain, plainO, hn]
            replace hP := Lib.hid hP
            clear hn HD2 I hh
            go_wp2_with (go_at_call 151; refine U.mono ?_; rintro _ w2 ⟨N, rfl, d2⟩; have hB2 := hB.trans (d2.mono hwr); have R := (H.kept hB2).set_; obtain ⟨u, bk⟩ := (H.kept hB2).bad_; have c1 := bk.at_ (i := 1) (v := .bool s.2) rfl; have f1 := bk.frozen 1; clear bk U)
            go_ret
            have K := (Kept.of_below hB2 (fun k => k = g)).trans R.kept
            rw [hP.out]
            exact ⟨rfl, R.ok, K⟩
        · have R := (H.kept hB).set_
          obtain ⟨u, bk⟩ := (H.kept hB).bad_
          have c1 := bk.at_ (i := 1) (v := .bool s.2) rfl
          have f1 := bk.frozen 1
          have K := (Kept.of_below hB (fun k => k = g)).trans R.kept
          have hn := unesc_short HD.out (by rw [List.length_drop]; omega) I.out
          have hP : pPlain (61 :: r) s = ([], s.1, true) := by simp [pPlain, plainO, hn]
          replace hP := Lib.hid hP
          clear hn HD I bk
          go_wp2_with fail
          go_ret
          rw [hP.out]
          exact ⟨rfl, R.ok, K⟩
      · have e3 : ((c.toNat : Int) != 37) = true := bne_iff_ne.2 (fun e => h37 (UInt8.toNat_inj.1 (by show c.toNat = 37; omega)))
        have I2 := Lib.hid (unesc_plain HD.out h37 I.out)
        clear I HD h37
        have hce : bAt r k = (c.toNat : Int) := hbk
        go_wp2_with fail
        refine (wbyte_calls w.heap.size w.heap.size out c _ rfl wr hbd (by omega) hwr).mono ?_
        rintro e w3 ⟨rfl, b3, B3'⟩
        have B3 := hB.trans B3'
        clear B3'
        go_wp2_with fail
        go_roundw
        case rel => exact ⟨k + 1, out ++ [c], by omega, rfl, b3, B3, by simp; omega, I2⟩
        case measure => simp [intOf]; omega
    · obtain rfl : k = r.length := by omega
      have he := unesc_end I.out
      have hP : pPlain (61 :: r) s = (out, s) := by simp [pPlain, plainO, he]
      replace hP := Lib.hid hP
      clear he I
      go_wp2_with fail
      refine (bstring_calls w.heap.size w.heap.size _ wr hbd hwr).mono ?_
      rintro e w3 ⟨rfl, B3⟩
      go_wp2_with fail
      go_ret
      rw [hP.out]
      exact ⟨rfl, H.kept (hB.trans B3), Kept.of_below (hB.trans B3) _⟩
theorem rplain_calls (w0 w : World) (g : Nat) (F : Nat → Prop) (s : RdS) (H : RdOK w0 w g F s) (hS : Std w0) (t : Txt) (ht : t.length ≤ 65536) :
    Calls Tryz.prog 123 #[.pointer (some ⟨g, 0, none⟩), .string (bstr t)] w fun e w' => e = .returned (.string (bstr (pPlain t s).1)) ∧ Reads w0 g F (pPlain t s).2 w w' := by
  by_cases h : ∃ r, t = 61 :: r
  · obtain ⟨r, rfl⟩ := h
    rw [List.length_cons] at ht
    by_cases h37 : 37 ∈ r
    · exact rplain_loop w0 w g F s H hS r (by omega) h37
    · have hP : pPlain (61 :: r) s = (r, s) := by simp [pPlain, plainO, unesc_free r h37]
      rw [hP]
      exact rplain_free w0 w g F s H r h37
  · have hP : pPlain t s = ([], s.1, true) := by
      cases t with
      | nil => rfl
      | cons c r =>
        have hc : c ≠ 61 := fun e => h ⟨r, by rw [e]⟩
        simp [pPlain, plainO, hc]
    rw [hP]
    exact rplain_no w0 w g F s H t (fun r e => h ⟨r, e⟩)
theorem rtext_calls (w0 w : World) (g : Nat) (F : Nat → Prop) (s : RdS) (H : RdOK w0 w g F s) (hS : Std w0) :
    Calls Tryz.prog 82 #[.pointer (some ⟨g, 0, none⟩)] w fun e w' => e = .returned (.string (bstr (pText s).1)) ∧ Reads w0 g F (pText s).2 w w' := by
  have hl := H.head
  go_enter Tryz.func82, Tryz.ntmps82
  go_wp2_with (first
    | (go_at_call 80; refine (rword_calls w0 w g F s H).mono ?_; rintro _ w1 ⟨rfl, R1⟩)
    | (go_at_call 123; refine (rplain_calls w0 w1 g F (pWord s).2 R1.ok hS (pWord s).1 hl).mono ?_; rintro _ w2 ⟨rfl, R2⟩; have R3 := R1.trans R2; clear R1 R2))
  go_ret
  exact ⟨rfl, R3⟩
end Go.Proofs.YtiokbebodblhaaaGreatDoor
namespace Go.Proofs.YtiokbebodblhaaaGreatDoor
open Go.RowKit TraceP

theorem pTag_nil {s : RdS} (h : (pWord s).1 = []) : pTag s = (zTag, (pWord s).2) := by unfold pTag; rw [h]
theorem pTag_dash {s : RdS} (h : (pWord s).1 = [45]) : pTag s = (zTag, (pWord s).2) := by unfold pTag; rw [h]; rfl
theorem pTag_cons {s : RdS} {c : UInt8} {r : Txt} (h : (pWord s).1 = c :: r) (hn : ¬ (c = 45 ∧ r = [])) : pTag s = (⟨(pPlain r (pWord s).2).1, c == 119⟩, (pPlain r (pWord s).2).2) := by
  unfold pTag
  rw [h]
  exact if_neg hn
/-- A tag's word that is none's. -/
theorem rtag_none (w0 w : World) (g : Nat) (F : Nat → Prop) (s : RdS) (H : RdOK w0 w g F s) (h : (pWord s).1 = [] ∨ (pWord s).1 = [45]) :
    Calls Tryz.prog 124 #[.pointer (some ⟨g, 0, none⟩)] w fun e w' => e = .returned (.agg #[.string (bstr (pTag s).1.text), .bool (pTag s).1.weak]) ∧ Reads w0 g F (pTag s).2 w w' := by
  have hT : pTag s = (zTag, (pWord s).2) := h.elim pTag_nil pTag_dash
  rw [hT]
  clear hT
  have nb := below_new w (.cells #[.string ⟨#[]⟩, .bool false] 25)
  have bk := Blk.new w 25 #[.string ⟨#[]⟩, .bool false]
  have H0 := H.more nb
  have hg : g < w.heap.size := by obtain ⟨_, b⟩ := H.bad_; exact b.lt
  have h1 : (bstr [45]).toList = [45] := bstr_list _
  have h2 : (bstr []).toList = [] := bstr_list _
  go_enter Tryz.func124, Tryz.ntmps124
  go_upto_region 2 with (go_at_call 80; refine (rword_calls w0 _ g _ s H0).mono ?_; rintro _ w1 ⟨rfl, R1⟩; have bk1 : Blk w1 w.heap.size _ _ := (R1.kept.block w.heap.size (by simp) (by omega)).trans bk; have k0 := bk1.at_ (i := 0) (v := .string ⟨#[]⟩) rfl; have k1 := bk1.at_ (i := 1) (v := .bool false) rfl; have f0 := bk1.frozen 0; have f1 := bk1.frozen 1; clear H0 bk)
  rcases h with h | h <;> rw [h]
  all_goals go_wp2
  all_goals
    (have lo0 : w0.heap.size ≤ w.heap.size := H.below.size
     have K := (((Kept.of_below nb (fun k => k = g)).trans R1.kept).setCell (p := ⟨w.heap.size, 0, none⟩) (.inr (Nat.le_refl _)) (.string ⟨#[]⟩)).setCell (p := ⟨w.heap.size, 1, none⟩) (.inr (Nat.le_refl _)) (.bool false)
     have O := (((R1.ok.far (p := ⟨w.heap.size, 0, none⟩) (by show w.heap.size ≠ g; omega) (.inr (Nat.le_refl _)) lo0 (.string ⟨#[]⟩)).far (p := ⟨w.heap.size, 1, none⟩) (by show w.heap.size ≠ g; omega) (.inr (Nat.le_refl _)) lo0 (.bool false))).less H.hF
     have bz := (bk1.set_ 0 (.string ⟨#[]⟩)).set_ 1 (.bool false)
     refine bodyPost_ret (results_cell_row rfl _ _ w.heap.size 25 _ (0, 0) _ rfl bz Tryz.underlying25 rfl (by kernel_rfl)) rfl ?_
     exact ⟨rfl, O, K⟩)
set_option maxHeartbeats 1600000 in
theorem rtag_some (w0 w : World) (g : Nat) (F : Nat → Prop) (s : RdS) (H : RdOK w0 w g F s) (hS : Std w0) (c : UInt8) (r : Txt) (h : (pWord s).1 = c :: r) (hn : ¬ (c = 45 ∧ r = [])) :
    Calls Tryz.prog 124 #[.pointer (some ⟨g, 0, none⟩)] w fun e w' => e = .returned (.agg #[.string (bstr (pTag s).1.text), .bool (pTag s).1.weak]) ∧ Reads w0 g F (pTag s).2 w w' := by
  have hl := H.head
  rw [h, List.length_cons] at hl
  rw [pTag_cons h hn]
  have nb := below_new w (.cells #[.string ⟨#[]⟩, .bool false] 25)
  have bk := Blk.new w 25 #[.string ⟨#[]⟩, .bool false]
  have H0 := H.more nb
  have hg : g < w.heap.size := by obtain ⟨_, b⟩ := H.bad_; exact b.lt
  have h1 : ((bstr (c :: r)).toList == [45]) = false := by
    rw [bstr_list]
    cases hq : ((c :: r : Txt) == [45]) with
    | false => rfl
    | true => exact absurd (by have := beq_iff_eq.1 hq; injection this with e1 e2; exact ⟨e1, e2⟩) hn
  have h2 : (bstr (c :: r)).toList.isEmpty = false := by rw [bstr_list]; rfl
  clear hn
  go_enter Tryz.func124, Tryz.ntmps124
  go_upto_region 2 with (go_at_call 80; refine (rword_calls w0 _ g _ s H0).mono ?_; rintro _ w1 ⟨rfl, R1⟩; have bk1 : Blk w1 w.heap.size _ _ := (R1.kept.block w.heap.size (by simp) (by omega)).trans bk; clear H0 bk)
  go_upto_region 4 with (fail)
  have hx := cut_tail c r
  have sz : ((bstr (c :: r)).size : Int) = (r.length : Int) + 1 := by rw [bstr_size, List.length_cons]; omega
  have hb := get_bAt (c :: r)
  have hb0 : bAt (c :: r) 0 = (c.toNat : Int) := bAt_get (l := c :: r) (k := 0) (by simp)
  have PC := fun (wq : World) (Hq : RdOK w0 wq g (fun k => F k ∨ w.heap.size ≤ k) (pWord s).2) => rplain_calls w0 wq g (fun k => F k ∨ w.heap.size ≤ k) (pWord s).2 Hq hS r (by omega)
  have hle : (1 : Int) ≤ (r.length : Int) + 1 := by omega
  have hlt : (0 : Int) < (r.length : Int) + 1 := by omega
  have c8 : ((c.toNat : Int) == 119) = (c == 119) := by
    cases hq : (c == 119) with
    | true => rw [beq_iff_eq.1 hq]; rfl
    | false =>
      cases hq2 : ((c.toNat : Int) == 119) with
      | false => rfl
      | true =>
        have e := beq_iff_eq.1 hq2
        have : c = 119 := UInt8.toNat_inj.1 (by show c.toNat = 119; omega)
        rw [this] at hq
        cases hq
  have C8 := Lib.hid c8
  clear c8
  have R1' := Lib.hid (R1.call ((Below.refl w1.heap.size w1).drew))
  have bk1' := Lib.hid bk1.drew
  clear R1 bk1
  go_region_law (go_simp; (go_at_call 123; refine (PC _ R1'.out.ok).mono ?_; rintro _ w2 ⟨rfl, R2⟩; have R3 := R1'.out.trans R2; have bk2 : Blk w2 w.heap.size _ _ := (R2.kept.block w.heap.size bk1'.out.lt (by omega)).trans bk1'.out; have k0 := bk2.at_ (i := 0) (v := .string ⟨#[]⟩) rfl; have k1 := bk2.at_ (i := 1) (v := .bool false) rfl; have f0 := bk2.frozen 0; have f1 := bk2.frozen 1))
  all_goals
    (have lo0 : w0.heap.size ≤ w.heap.size := H.below.size
     have K := (((Kept.of_below nb (fun k => k = g)).trans R3.kept).setCell (p := ⟨w.heap.size, 0, none⟩) (.inr (Nat.le_refl _)) (.string (bstr (pPlain r (pWord s).2).1))).setCell (p := ⟨w.heap.size, 1, none⟩) (.inr (Nat.le_refl _)) (.bool ((c.toNat : Int) == 119))
     have O := (((R3.ok.far (p := ⟨w.heap.size, 0, none⟩) (by show w.heap.size ≠ g; omega) (.inr (Nat.le_refl _)) lo0 (.string (bstr (pPlain r (pWord s).2).1))).far (p := ⟨w.heap.size, 1, none⟩) (by show w.heap.size ≠ g; omega) (.inr (Nat.le_refl _)) lo0 (.bool ((c.toNat : Int) == 119)))).less H.hF
     have bz := (bk2.set_ 0 (.string (bstr (pPlain r (pWord s).2).1))).set_ 1 (.bool ((c.toNat : Int) == 119))
     clear k0 k1 f0 f1 hb hb0 hx hle hlt
     go_wp2
     refine bodyPost_ret (results_cell_row rfl _ _ w.heap.size 25 _ (0, 0) _ rfl bz Tryz.underlying25 rfl (by kernel_rfl)) rfl ?_
     refine ⟨?_, O, K⟩
     rw [← C8.out]
     rfl)
theorem rtag_calls (w0 w : World) (g : Nat) (F : Nat → Prop) (s : RdS) (H : RdOK w0 w g F s) (hS : Std w0) :
    Calls Tryz.prog 124 #[.pointer (some ⟨g, 0, none⟩)] w fun e w' => e = .returned (.agg #[.string (bstr (pTag s).1.text), .bool (pTag s).1.weak]) ∧ Reads w0 g F (pTag s).2 w w' := by
  cases h : (pWord s).1 with
  | nil => exact rtag_none w0 w g F s H (.inl h)
  | cons c r =>
    by_cases hn : c = 45 ∧ r = []
    · exact rtag_none w0 w g F s H (.inr (by rw [h, hn.1, hn.2]))
    · exact rtag_some w0 w g F s H hS c r h hn
end Go.Proofs.YtiokbebodblhaaaGreatDoor
namespace Go.Proofs.YtiokbebodblhaaaGreatDoor
open Go.RowKit TraceP

/-- A row that a call has made: it lies in no block that was there before. -/
def NewRow {α : Type} (c : α → List Value) (w w' : World) (l : List α) (v : Value) : Prop :=
  ∃ A cap, v = .slice A l.length cap ∧ l.length ≤ cap ∧ cap ≤ 9223372036854775807 ∧ RVF w' (fun k => k < w.heap.size) A (fl c l)
theorem NewRow.none_ {α : Type} {c : α → List Value} {w w' : World} : NewRow c w w' ([] : List α) (.slice none 0 0) := ⟨none, 0, rfl, Nat.le_refl _, by decide, RVF.nil⟩
theorem rbytes_calls (w0 w : World) (g : Nat) (F : Nat → Prop) (s : RdS) (H : RdOK w0 w g F s) (hS : Std w0) (hl : (pText s).1.length ≤ 281474976710656) :
    Calls Tryz.prog 84 #[.pointer (some ⟨g, 0, none⟩)] w fun e w' => ∃ v, e = .returned v ∧ NewRow byC w w' (pText s).1 v ∧ Reads w0 g F (pText s).2 w w' := by
  cases ht : (pText s).1 with
  | nil =>
    have h2 : (bstr []).toList.isEmpty = true := by rw [bstr_list]; rfl
    go_enter Tryz.func84, Tryz.ntmps84
    go_wp2_with (go_at_call 82; refine (rtext_calls w0 w g F s H hS).mono ?_; rintro _ w1 ⟨rfl, R1⟩; rw [ht])
    go_ret
    exact ⟨_, rfl, NewRow.none_, R1⟩
  | cons c r =>
    rw [ht] at hl
    have h2 : (bstr (c :: r)).toList.isEmpty = false := by rw [bstr_list]; rfl
    have kc := fun (w : World) => Lib.run_convert_string_bytes (P := Tryz.prog) w 9 43 5 (bstr (c :: r)) Tryz.underlying9 Tryz.underlying43 Tryz.underlying5
    go_enter Tryz.func84, Tryz.ntmps84
    go_wp2_with (go_at_call 82; refine (rtext_calls w0 w g F s H hS).mono ?_; rintro _ w1 ⟨rfl, R1⟩; rw [ht])
    go_ret
    have B1 := Lib.bytesWorld_below w1 5 (bstr (c :: r))
    have sz : (bstr (c :: r)).size = (c :: r).length := bstr_size _
    refine ⟨_, rfl, ⟨some ⟨w1.heap.size, 0, none⟩, grownCap w1 (bstr (c :: r)).size 0 5, rfl, ?_, ?_, ?_⟩, R1.call B1⟩
    · rw [← sz]; exact grownCap_ge _ _ _ _
    · exact Nat.le_trans (grownCap_le_maxLen _ _ _ _ (by rw [sz]; unfold maxLen; omega)) (by unfold maxLen; decide)
    · intro _
      refine ⟨w1.heap.size, 0, rfl, by rw [Lib.bytesWorld_size]; omega, fun hk => by have := R1.kept.size; omega, fun j v hj => ?_⟩
      rw [fl_by] at hj
      have hj2 : j < (c :: r).length := by
        have := (List.getElem?_eq_some_iff.1 hj).1
        rwa [cB_len] at this
      rw [Nat.zero_add, Lib.bytesWorld_cell w1 _ _ j (by rw [sz]; exact hj2), bstr_data, ← hj]
      unfold cB
      rw [List.getElem?_map, List.getElem?_eq_getElem hj2, List.getD_eq_getElem?_getD, List.getElem?_eq_getElem hj2]
      rfl
end Go.Proofs.YtiokbebodblhaaaGreatDoor
namespace Go.Proofs.YtiokbebodblhaaaGreatDoor
open Go.RowKit TraceP

theorem RdOK.shs {w0 w : World} {g : Nat} {F : Nat → Prop} {s : RdS} (H : RdOK w0 w g F s) : Sh s := ⟨H.sh, H.few⟩
theorem RdOK.lt {w0 w : World} {g : Nat} {F : Nat → Prop} {s : RdS} (H : RdOK w0 w g F s) : g < w.heap.size := by
  obtain ⟨_, b⟩ := H.bad_
  exact b.lt
theorem kept_setCells {F : Nat → Prop} {a : World} {g : Nat} : ∀ (vs : List Value) (o : Nat) {w : World}, Kept F a w → F g ∨ a.heap.size ≤ g → Kept F a (w.setCells g o vs)
  | [], _, _, h, _ => h
  | v :: r, o, _, h, hg => kept_setCells r (o + 1) (h.setCell (p := ⟨g, o, none⟩) hg v) hg
/-- A row that lies in no block below B. -/
structure RowN {α : Type} (c : α → List Value) (B : Nat) (w : World) (r : Row α) : Prop where
  le : r.l.length ≤ r.cap
  cap : r.cap ≤ 9223372036854775807
  rv : RVF w (fun k => k < B) r.A (fl c r.l)
section
variable {α : Type} {c : α → List Value} {B B' : Nat} {w w' : World} {r : Row α}
theorem RowN.ok (h : RowN c B w r) : RowOK c w r := ⟨h.le, h.cap, h.rv.rv⟩
theorem RowN.kept {F : Nat → Prop} (h : RowN c B w r) (K : Kept F w w') (hF : ∀ k, F k → k < B) : RowN c B w' r := ⟨h.le, h.cap, h.rv.kept (K.mono fun k _ hk => hF k hk)⟩
theorem RowN.below (h : RowN c B w r) (d : Below w.heap.size w w') : RowN c B w' r := ⟨h.le, h.cap, h.rv.below d⟩
theorem RowN.older (h : RowN c B w r) (hb : B' ≤ B) : RowN c B' w r := ⟨h.le, h.cap, h.rv.mono fun _k _ hk => Nat.lt_of_lt_of_le hk hb⟩
theorem RowN.none_ (c : α → List Value) (B : Nat) (w : World) : RowN c B w noRow := ⟨Nat.le_refl _, Nat.zero_le _, RVF.nil⟩
theorem RowN.cell {p : Addr} (h : RowN c B w r) (hp : p.block < B) (u : Value) : RowN c B (w.setCell p u) r := h.kept ((Kept.refl (fun k => k = p.block) w).setCell (.inl rfl) u) (fun _k hk => hk ▸ hp)
theorem RowN.cells {g o : Nat} {vs : List Value} (h : RowN c B w r) (hp : g < B) : RowN c B (w.setCells g o vs) r := h.kept (kept_setCells vs o (Kept.refl (fun k => k = g) w) (.inl rfl)) (fun _k hk => hk ▸ hp)
end
theorem RVF.of_own {w : World} {N n c k : Nat} {e : TypeId} {F : Nat → Prop} {A : Option Addr} {xs : List Value} (h : w.ownsRow N e k (.slice A n c) n xs) (hF : ∀ i, F i → i < N ∨ w.heap.size ≤ i) : RVF w F A xs := fun hne => by
  have hn : 0 < n := by
    rcases Nat.eq_zero_or_pos n with h0 | h0
    · have := h.1
      rw [h0, Nat.zero_mul] at this
      exact absurd (List.eq_nil_of_length_eq_zero this) hne
    · exact h0
  rcases h.2 with ⟨hv, h0⟩ | ⟨g, cap, cur, hv, hb, hh, _⟩
  · omega
  · injection hv with hA
    subst hA
    have hlt := lt_of_block hh
    refine ⟨g, 0, rfl, hlt, fun hf => by rcases hF g hf with h3 | h3 <;> omega, fun j u hu => ?_⟩
    have := h.cells (g := g) rfl j u hu
    rw [add_zero_off] at this
    rwa [Nat.zero_add]
theorem RowN.of_own {α : Type} {c : α → List Value} {B k : Nat} {w : World} {e : TypeId} {v : Value} {l : List α} (h : w.ownsRow B e k v l.length (fl c l)) : ∃ r : Row α, v = r.val ∧ r.l = l ∧ RowN c B w r := by
  obtain ⟨A, cap, rfl, h1, h2⟩ := own_form h
  exact ⟨⟨A, cap, l⟩, rfl, rfl, h1, h2, RVF.of_own h fun i hi => .inl hi⟩
theorem NewRow.row {α : Type} {c : α → List Value} {w w' : World} {l : List α} {v : Value} (h : NewRow c w w' l v) : ∃ r : Row α, v = r.val ∧ r.l = l ∧ RowN c w.heap.size w' r := by
  obtain ⟨A, cap, rfl, h1, h2, h3⟩ := h
  exact ⟨⟨A, cap, l⟩, rfl, rfl, h1, h2, h3⟩
/-- All that turns lies in blocks that the reader's words don't lie in. -/
theorem RdOK.keptF {w0 w w' : World} {g : Nat} {F G : Nat → Prop} {s : RdS} (H : RdOK w0 w g F s) (K : Kept G w w') (hG : ∀ k, G k → F k ∧ k ≠ g ∧ w0.heap.size ≤ k) : RdOK w0 w' g F s := by
  have hlt := H.lt
  obtain ⟨⟨A, c, bk, hc, hc2, rv⟩, sh, lo, gF, bw, few⟩ := H
  exact ⟨⟨A, c, (K.block g hlt (fun h => (hG g h).2.1 rfl)).trans bk, hc, hc2, rv.kept (K.mono fun k _ hk => (hG k hk).1)⟩, sh, lo, gF, bw.trans (K.below (fun k _ hk => (hG k hk).2.2) bw.size), few⟩
/-- What stands since the world wb: nothing that was there has turned but the reader's own block. -/
structure Hold (w0 wb : World) (g : Nat) (F : Nat → Prop) (s : RdS) (w : World) : Prop where
  ok : RdOK w0 w g (fun k => F k ∨ wb.heap.size ≤ k) s
  kept : Kept (fun k => k = g) wb w
  lt : g < wb.heap.size
  hF : F g
  lo : w0.heap.size ≤ wb.heap.size
section
variable {w0 wb w w' : World} {g b : Nat} {F : Nat → Prop} {s s' : RdS}
theorem Hold.start (H : RdOK w0 w g F s) : Hold w0 w g F s w := ⟨H.more (Below.refl _ _), Kept.refl _ _, H.lt, H.hF, H.below.size⟩
theorem Hold.call (h : Hold w0 wb g F s w) (R : Reads w0 g (fun k => F k ∨ wb.heap.size ≤ k) s' w w') : Hold w0 wb g F s' w' := ⟨R.ok, h.kept.trans R.kept, h.lt, h.hF, h.lo⟩
theorem Hold.below (h : Hold w0 wb g F s w) (d : Below w.heap.size w w') : Hold w0 wb g F s w' := ⟨h.ok.kept d, h.kept.trans (Kept.of_below d _), h.lt, h.hF, h.lo⟩
theorem Hold.alloc (h : Hold w0 wb g F s w) (o : Obj) : Hold w0 wb g F s (w.alloc o) := h.below ((Below.refl _ _).alloc (Nat.le_refl _) o)
theorem Hold.drew (h : Hold w0 wb g F s w) : Hold w0 wb g F s w.drew := h.below ((Below.refl w.heap.size w).drew)
theorem Hold.more (h : Hold w0 wb g F s w) (K : Kept (fun k => wb.heap.size ≤ k) w w') : Hold w0 wb g F s w' :=
  ⟨h.ok.keptF K fun k hk => ⟨.inr hk, by have := h.lt; omega, Nat.le_trans h.lo hk⟩, ⟨K.os.trans h.kept.os, K.tape.trans h.kept.tape, K.output.trans h.kept.output, Nat.le_trans h.kept.size K.size, fun k hk hg => (K.block k (Nat.lt_of_lt_of_le hk h.kept.size) (by omega)).trans (h.kept.block k hk hg)⟩, h.lt, h.hF, h.lo⟩
theorem Hold.set {p : Addr} (h : Hold w0 wb g F s w) (hp : wb.heap.size ≤ p.block) (u : Value) : Hold w0 wb g F s (w.setCell p u) := h.more ((Kept.refl _ w).setCell (.inl hp) u)
theorem Hold.setRow {c : Nat} (h : Hold w0 wb g F s w) (hp : wb.heap.size ≤ c) (cs : Array Value) : Hold w0 wb g F s (w.setRow c cs) :=
  h.more ⟨rfl, rfl, rfl, by simp, fun k _ hk => setRow_far cs 0 (by omega)⟩
theorem Hold.size (h : Hold w0 wb g F s w) : wb.heap.size ≤ w.heap.size := h.kept.size
theorem Hold.done (h : Hold w0 wb g F s w) : Reads w0 g F s wb w := ⟨h.ok.less h.hF, h.kept⟩
theorem Hold.std (h : Hold w0 wb g F s w) (hS : Std w0) : Std w := h.ok.std hS
theorem Blk.rd {T : TypeId} {cs : Array Value} {G : Nat → Prop} (h : Blk w b T cs) (R : Reads w0 g G s' w w') (hb : b ≠ g) : Blk w' b T cs := (R.kept.block b h.lt hb).trans h
end
theorem Kept.trans2 {a b w : World} {g k : Nat} (h : Kept (fun i => i = g) a b) (x : Kept (fun i => i = g ∨ i = k) b w) (hk : a.heap.size ≤ k) : Kept (fun i => i = g) a w :=
  ⟨x.os.trans h.os, x.tape.trans h.tape, x.output.trans h.output, Nat.le_trans h.size x.size, fun i hi hg => (x.block i (Nat.lt_of_lt_of_le hi h.size) (fun e => by rcases e with e | e <;> omega)).trans (h.block i hi hg)⟩
/-- A method of a reader fills block b, of type T: what the reader has left, what stands in the block. -/
structure Holds (w0 w1 : World) (g b : Nat) (F : Nat → Prop) (T : TypeId) (s : RdS) (cs : Array Value) (w : World) : Prop where
  ok : RdOK w0 w g (fun k => F k ∨ b ≤ k) s
  blk : Blk w b T cs
  kept : Kept (fun k => k = g ∨ k = b) w1 w
  lt : g < b
  hF : F g
  lo : w0.heap.size ≤ b
  sz : b < w1.heap.size
section
variable {w0 w1 w w' : World} {g b : Nat} {F : Nat → Prop} {T : TypeId} {s s' : RdS} {cs : Array Value}
theorem Holds.start {w : World} (H : RdOK w0 w g F s) (T : TypeId) (cs : Array Value) : Holds w0 (w.alloc (.cells cs T)) g w.heap.size F T s cs (w.alloc (.cells cs T)) :=
  ⟨H.more (below_new w (.cells cs T)), Blk.new w T cs, Kept.refl _ _, H.lt, H.hF, H.below.size, by simp⟩
theorem Holds.size (h : Holds w0 w1 g b F T s cs w) : b + 1 ≤ w.heap.size := Nat.le_trans h.sz h.kept.size
theorem Holds.call (h : Holds w0 w1 g b F T s cs w) (R : Reads w0 g (fun k => F k ∨ b ≤ k) s' w w') : Holds w0 w1 g b F T s' cs w' :=
  ⟨R.ok, (R.kept.block b h.blk.lt (by have := h.lt; omega)).trans h.blk, h.kept.trans (R.kept.mono fun k _ hk => .inl hk), h.lt, h.hF, h.lo, h.sz⟩
theorem Holds.below (h : Holds w0 w1 g b F T s cs w) (d : Below w.heap.size w w') : Holds w0 w1 g b F T s cs w' :=
  ⟨h.ok.kept d, h.blk.below d h.blk.lt, h.kept.trans (Kept.of_below d _), h.lt, h.hF, h.lo, h.sz⟩
theorem Holds.drew (h : Holds w0 w1 g b F T s cs w) : Holds w0 w1 g b F T s cs w.drew := h.below ((Below.refl w.heap.size w).drew)
theorem Holds.set (h : Holds w0 w1 g b F T s cs w) (i : Nat) (u : Value) : Holds w0 w1 g b F T s (cs.setIfInBounds i u) (w.setCell ⟨b, i, none⟩ u) :=
  ⟨h.ok.far (p := ⟨b, i, none⟩) (by have := h.lt; show b ≠ g; omega) (.inr (Nat.le_refl _)) h.lo u, h.blk.set_ i u, h.kept.setCell (p := ⟨b, i, none⟩) (.inl (.inr rfl)) u, h.lt, h.hF, h.lo, h.sz⟩
theorem Holds.mid : ∀ (vs : List Value) (o : Nat) {w : World} {cs : Array Value}, Holds w0 w1 g b F T s cs w → Holds w0 w1 g b F T s (putL cs o vs) (w.setCells b o vs)
  | [], _, _, _, h => h
  | v :: r, o, _, _, h => Holds.mid r (o + 1) (h.set o v)
theorem Holds.done {w : World} {o : Obj} (h : Holds w0 (w.alloc o) g w.heap.size F T s cs w') : Reads w0 g F s w w' := by
  refine ⟨h.ok.less h.hF, ?_⟩
  have k1 : Kept (fun k => k = g ∨ k = w.heap.size) w (w.alloc o) := (Kept.refl _ w).alloc o
  exact (k1.trans h.kept).mono fun k hk hF => by
    rcases hF with e | e
    · exact e
    · omega
/-- The like, where the block was made somewhere on the way. -/
theorem Holds.hold {wb wx : World} (hx : Hold w0 wb g F s wx) (h : Holds w0 wx g b (fun k => F k ∨ wb.heap.size ≤ k) T s' cs w') (hb : wb.heap.size ≤ b) : Hold w0 wb g F s' w' :=
  ⟨h.ok.less (.inl hx.hF), hx.kept.trans2 h.kept hb, hx.lt, hx.hF, hx.lo⟩
theorem Holds.at_ (h : Holds w0 w1 g b F T s cs w) {i : Nat} {v : Value} (hv : cs[i]? = some v) : w.cell? ⟨b, i, none⟩ = some v := h.blk.at_ hv
theorem Holds.std (h : Holds w0 w1 g b F T s cs w) (hS : Std w0) : Std w := h.ok.std hS
theorem Holds.row {α : Type} {c : α → List Value} {r : Row α} (_ : Holds w0 w1 g b F T s cs w) (k : RowN c (b + 1) w r) (R : Reads w0 g (fun k => F k ∨ b ≤ k) s' w w') (lt : g < b) : RowN c (b + 1) w' r := k.kept R.kept fun i hi => by omega
end
end Go.Proofs.YtiokbebodblhaaaGreatDoor
namespace Go.Proofs.YtiokbebodblhaaaGreatDoor
open Go.RowKit TraceP

theorem go_zero {α : Type} (p : RdS → α × RdS) (n : Nat) (l : List α) (s : RdS) (h : n = 0 ∨ s.2 = true) : pGo p n l s = (l, s) := by
  cases n with
  | zero => rfl
  | succ n =>
    rcases h with h | h
    · cases h
    · unfold pGo; rw [if_pos h]
theorem go_succ {α : Type} (p : RdS → α × RdS) (k : Int) (l : List α) (s : RdS) (hk : 0 < k) (h : s.2 = false) : pGo p k.toNat l s = pGo p (k - 1).toNat (l ++ [(p s).1]) (p s).2 := by
  obtain ⟨n, hn⟩ : ∃ n, k.toNat = n + 1 := ⟨k.toNat - 1, by omega⟩
  rw [hn, show (k - 1).toNat = n by omega]
  show (if s.2 = true then (l, s) else _) = _
  rw [h, if_neg (by simp)]
set_option maxRecDepth 100000 in
set_option maxHeartbeats 1600000 in
theorem texts_read (w0 w : World) (g : Nat) (F : Nat → Prop) (s : RdS) (H : RdOK w0 w g F s) (hS : Std w0) :
    Calls Tryz.prog 86 #[.pointer (some ⟨g, 0, none⟩), .func (.func 82) #[.pointer (some ⟨g, 0, none⟩)] #[]] w
      fun e w' => ∃ r : Row Txt, e = .returned r.val ∧ r.l = (pList pText s).1 ∧ RowN txC w.heap.size w' r ∧ Reads w0 g F (pList pText s).2 w w' := by
  have H0 := Hold.start H
  have N1 := num_eats.one s
  have fw := H.few
  have hI := pNum_i64 s
  go_enter Tryz.func86, Tryz.ntmps86
  go_wp2_with (go_at_call 79; refine (rnum_calls w0 w g _ s H0.ok hS).mono ?_; rintro _ w1 ⟨rfl, R1⟩; have H1 := H0.call R1; clear R1)
  have G0 : Hid (pGo pText (pNum s).1.toNat [] (pNum s).2 = pList pText s) := Lib.hid rfl
  generalize hst : pNum s = q at *
  obtain ⟨k0, s1⟩ := q
  clear hst
  dsimp only at G0 N1 hI H1
  go_loopw [5, 6] (fun v n wr => ∃ (k : Int) (out : List Txt) (s' : RdS), n = .int .i64 k ∧ I64 k ∧ wr.ownsRow w.heap.size 9 1 v out.length (fl txC out) ∧ Hold w0 w g F s' wr ∧ Hid (pGo pText k.toNat out s' = pList pText s) ∧ out.length + s'.1.length ≤ s.1.length + (if s'.2 = true then 1 else 0)) (fun _ n _ => (intOf n).toNat)
  case atStart => exact ⟨k0, [], s1, rfl, hI, ⟨rfl, .inl ⟨rfl, rfl⟩⟩, H1, G0, by show 0 + _ ≤ _; omega⟩
  case round =>
    clear N1 hI H1 G0 H0
    obtain ⟨k, out, s', rfl, hI, hown, Hr, G, few⟩ := hrel
    obtain ⟨u, bk⟩ := Hr.ok.bad_
    have c1 := bk.at_ (i := 1) (v := .bool s'.2) rfl
    obtain ⟨A, c, rfl, hnc, hcm⟩ := own_form hown
    by_cases hk : 0 < k
    · have dk : decide (0 < k) = true := decide_eq_true hk
      cases hb : s'.2
      · rw [hb] at c1
        have g1 := go_succ pText k out s' hk hb
        have G2 : pGo pText (k - 1).toNat (out ++ [(pText s').1]) (pText s').2 = pList pText s := g1.symm.trans G.out
        replace G2 := Lib.hid G2
        have few2 := text_eats.one s'
        have wk : wrap64 (k - 1) = k - 1 := by have := hI.1; have := hI.2; unfold wrap64; omega
        rw [hb, if_neg (by simp)] at few
        clear g1 G
        go_wp2_with (first
          | (go_at_call 82; refine (rtext_calls w0 wr g _ s' Hr.ok hS).mono ?_; rintro _ w2 ⟨rfl, R2⟩; have H2 := Hr.call R2; have own2 := own_frame hown (fun k hk => R2.kept.block k (hown.lt k hk).2 (by have := (hown.lt k hk).1; have := Hr.lt; omega)); clear R2 hown Hr c1 bk)
          | ((with_reducible show wpList _ _ _ (⟨some 24, _, _, _, _, _⟩ :: _) _ _); refine wpList_append_rv el_string rfl (.tmp 20) (.tmp 23) rfl w.heap.size _ out.length (fl txC out) rfl (own_below own2 ((Below.refl _ _).alloc (Nat.le_refl _) _) (fun k hk => (own2.lt k hk).2)) (some ⟨w2.heap.size, 0, none⟩) 1 1 (txC (pText s').1) rfl rfl (RV.new w2 (txC (pText s').1) 9 (0, 0)) (txC_one _) ?f2 ?f3 ?f4 ?_))
        case f2 => unfold maxLen; omega
        case f3 => omega
        case f4 => have := H2.size; simp; omega
        intro v' w3 hown' gr hv
        have H3 := H2.more (((Kept.refl (fun k => w.heap.size ≤ k) w2).alloc _).grown gr (fun k hk => .inl (own2.lt k hk).1))
        clear own2 gr hv H2
        go_wp2_with fail
        go_roundw
        case rel => exact ⟨k - 1, out ++ [(pText s').1], (pText s').2, congrArg (Value.int IntKind.i64) wk, ⟨by have := hI.1; omega, by have := hI.2; omega⟩, by rw [List.length_append, fl_append, fl_one]; exact hown', H3, G2, by rw [List.length_append, List.length_singleton]; omega⟩
        case measure => simp [intOf]; omega
      · rw [hb] at c1
        have G2 := G.out
        rw [go_zero pText _ _ _ (.inr hb)] at G2
        clear G
        go_wp2_with fail
        go_ret
        obtain ⟨r, hv, hl, hr⟩ := RowN.of_own (c := txC) hown
        rw [← G2]
        exact ⟨r, congrArg Ending.returned hv, hl, hr, Hr.done⟩
    · have dk : decide (0 < k) = false := decide_eq_false hk
      have G2 := G.out
      rw [go_zero pText _ _ _ (.inl (by omega))] at G2
      clear G
      go_wp2_with fail
      go_ret
      obtain ⟨r, hv, hl, hr⟩ := RowN.of_own (c := txC) hown
      rw [← G2]
      exact ⟨r, congrArg Ending.returned hv, hl, hr, Hr.done⟩
end Go.Proofs.YtiokbebodblhaaaGreatDoor
namespace Go.Proofs.YtiokbebodblhaaaGreatDoor
open Go.RowKit TraceP

/-- The reader's pointer lies in another block than the reader. -/
theorem box_ne {w0 w : World} {g bx : Nat} {F : Nat → Prop} {s : RdS} (H : RdOK w0 w g F s) (hbx : Blk w bx 89 #[.pointer (some ⟨g, 0, none⟩)]) : bx ≠ g := by
  intro e
  subst e
  obtain ⟨_, b⟩ := H.bad_
  have h1 := b.symm.trans hbx
  injection h1 with h1
  injection h1 with h1
  have := congrArg Array.size h1
  simp at this
theorem spec_one (w0 w : World) (g : Nat) (F : Nat → Prop) (s : RdS) (H : RdOK w0 w g F s) (hS : Std w0) (bx : Nat) (hbx : Blk w bx 89 #[.pointer (some ⟨g, 0, none⟩)]) :
    Calls Tryz.prog 126 #[.pointer (some ⟨bx, 0, none⟩)] w fun e w' => e = .returned (.agg #[.int .i64 (pSpan s).1.frm, .int .i64 (pSpan s).1.to]) ∧ Reads w0 g F (pSpan s).2 w w' := by
  have hg := H.lt
  have H0 := (Hold.start H).alloc (.cells #[.int .i64 0, .int .i64 0] 74)
  have bR := Blk.new w 74 #[.int .i64 0, .int .i64 0]
  have c0 := (hbx.alloc (.cells #[.int .i64 0, .int .i64 0] 74)).at_ (i := 0) (v := .pointer (some ⟨g, 0, none⟩)) rfl
  go_enter Tryz.func126, Tryz.ntmps126
  go_wp2_with (go_at_call 127; refine (rspan_calls w0 _ g _ s H0.ok hS).mono ?_; rintro _ w1 ⟨rfl, R1⟩; have H1 := H0.call R1; have bR1 := bR.rd R1 (by omega); have bR2 := bR1.alloc (.cells #[.int .i64 (pSpan s).1.frm, .int .i64 (pSpan s).1.to] 38); have k0 := bR2.at_ (i := 0) (v := .int .i64 0) rfl; have k1 := bR2.at_ (i := 1) (v := .int .i64 0) rfl; have f0 := bR2.frozen 0; have f1 := bR2.frozen 1; clear R1 H0 bR c0 bR1)
  have H2 := H1.alloc (.cells #[.int .i64 (pSpan s).1.frm, .int .i64 (pSpan s).1.to] 38)
  have H3 := (H2.set (p := ⟨w.heap.size, 0, none⟩) (Nat.le_refl _) (.int .i64 (pSpan s).1.frm)).set (p := ⟨w.heap.size, 1, none⟩) (Nat.le_refl _) (.int .i64 (pSpan s).1.to)
  have bz := (bR2.set_ 0 (.int .i64 (pSpan s).1.frm)).set_ 1 (.int .i64 (pSpan s).1.to)
  refine bodyPost_ret (results_cell_row rfl _ _ w.heap.size 74 _ (0, 0) _ rfl bz Tryz.underlying74 rfl (by kernel_rfl)) rfl ?_
  exact ⟨rfl, H3.done⟩
theorem field_one (w0 w : World) (g : Nat) (F : Nat → Prop) (s : RdS) (H : RdOK w0 w g F s) (hS : Std w0) (bx : Nat) (hbx : Blk w bx 89 #[.pointer (some ⟨g, 0, none⟩)]) :
    Calls Tryz.prog 130 #[.pointer (some ⟨bx, 0, none⟩)] w fun e w' => e = .returned (.agg #[.string (bstr (pFld s).1.name), .string (bstr (pFld s).1.value)]) ∧ Reads w0 g F (pFld s).2 w w' := by
  have hg := H.lt
  have H0 := (Hold.start H).alloc (.cells #[.string ⟨#[]⟩, .string ⟨#[]⟩] 76)
  have bR := Blk.new w 76 #[.string ⟨#[]⟩, .string ⟨#[]⟩]
  have bX := hbx.alloc (.cells #[.string ⟨#[]⟩, .string ⟨#[]⟩] 76)
  have hxg := box_ne H hbx
  have c0 := bX.at_ (i := 0) (v := .pointer (some ⟨g, 0, none⟩)) rfl
  go_enter Tryz.func130, Tryz.ntmps130
  go_wp2_with (first
    | (go_at_call 82; have _q := H0; refine (rtext_calls w0 _ g _ s H0.ok hS).mono ?_; rintro _ w1 ⟨rfl, R1⟩; have H1 := H0.call R1; have bR1 := bR.rd R1 (by omega); have bX1 := bX.rd R1 hxg; have c1 := bX1.at_ (i := 0) (v := .pointer (some ⟨g, 0, none⟩)) rfl; clear _q R1 H0 bR bX c0)
    | (go_at_call 82; refine (rtext_calls w0 _ g _ _ H1.ok hS).mono ?_; rintro _ w2 ⟨rfl, R2⟩; have H2 := H1.call R2; have bR2 := bR1.rd R2 (by omega); have k0 := bR2.at_ (i := 0) (v := .string ⟨#[]⟩) rfl; have k1 := bR2.at_ (i := 1) (v := .string ⟨#[]⟩) rfl; have f0 := bR2.frozen 0; have f1 := bR2.frozen 1; clear R2 H1 bR1 bX1 c1))
  have H3 := (H2.set (p := ⟨w.heap.size, 0, none⟩) (Nat.le_refl _) (.string (bstr (pText s).1))).set (p := ⟨w.heap.size, 1, none⟩) (Nat.le_refl _) (.string (bstr (pText (pText s).2).1))
  have bz := (bR2.set_ 0 (.string (bstr (pText s).1))).set_ 1 (.string (bstr (pText (pText s).2).1))
  refine bodyPost_ret (results_cell_row rfl _ _ w.heap.size 76 _ (0, 0) _ rfl bz Tryz.underlying76 rfl (by kernel_rfl)) rfl ?_
  exact ⟨rfl, H3.done⟩
theorem part_one (w0 w : World) (g : Nat) (F : Nat → Prop) (s : RdS) (H : RdOK w0 w g F s) (hS : Std w0) (bx : Nat) (hbx : Blk w bx 89 #[.pointer (some ⟨g, 0, none⟩)]) :
    Calls Tryz.prog 132 #[.pointer (some ⟨bx, 0, none⟩)] w fun e w' => e = .returned (.agg #[.string (bstr (pPrt s).1.text), .int .i64 (pPrt s).1.span.frm, .int .i64 (pPrt s).1.span.to]) ∧ Reads w0 g F (pPrt s).2 w w' := by
  have hg := H.lt
  have H0 := (Hold.start H).alloc (.cells #[.string ⟨#[]⟩, .int .i64 0, .int .i64 0] 78)
  have bR := Blk.new w 78 #[.string ⟨#[]⟩, .int .i64 0, .int .i64 0]
  have bX := hbx.alloc (.cells #[.string ⟨#[]⟩, .int .i64 0, .int .i64 0] 78)
  have hxg := box_ne H hbx
  have c0 := bX.at_ (i := 0) (v := .pointer (some ⟨g, 0, none⟩)) rfl
  go_enter Tryz.func132, Tryz.ntmps132
  go_wp2_with (first
    | (go_at_call 82; refine (rtext_calls w0 _ g _ s H0.ok hS).mono ?_; rintro _ w1 ⟨rfl, R1⟩; have H1 := H0.call R1; have bR1 := bR.rd R1 (by omega); have bX1 := bX.rd R1 hxg; have c1 := bX1.at_ (i := 0) (v := .pointer (some ⟨g, 0, none⟩)) rfl; clear R1 H0 bR bX c0)
    | (go_at_call 127; refine (rspan_calls w0 _ g _ _ H1.ok hS).mono ?_; rintro _ w2 ⟨rfl, R2⟩; have H2 := H1.call R2; have bR2 := bR1.rd R2 (by omega); have k0 := bR2.at_ (i := 0) (v := .string ⟨#[]⟩) rfl; have k1 := bR2.at_ (i := 1) (v := .int .i64 0) rfl; have k2 := bR2.at_ (i := 2) (v := .int .i64 0) rfl; have f0 := bR2.frozen 0; have f1 := bR2.frozen 1; have f2 := bR2.frozen 2; clear R2 H1 bR1 bX1 c1))
  have H3 := ((H2.set (p := ⟨w.heap.size, 0, none⟩) (Nat.le_refl _) (.string (bstr (pText s).1))).set (p := ⟨w.heap.size, 1, none⟩) (Nat.le_refl _) (.int .i64 (pSpan (pText s).2).1.frm)).set (p := ⟨w.heap.size, 2, none⟩) (Nat.le_refl _) (.int .i64 (pSpan (pText s).2).1.to)
  have bz := ((bR2.set_ 0 (.string (bstr (pText s).1))).set_ 1 (.int .i64 (pSpan (pText s).2).1.frm)).set_ 2 (.int .i64 (pSpan (pText s).2).1.to)
  refine bodyPost_ret (results_cell_row rfl _ _ w.heap.size 78 _ (0, 0) _ rfl bz Tryz.underlying78 rfl (by kernel_rfl)) rfl ?_
  exact ⟨rfl, H3.done⟩
end Go.Proofs.YtiokbebodblhaaaGreatDoor
