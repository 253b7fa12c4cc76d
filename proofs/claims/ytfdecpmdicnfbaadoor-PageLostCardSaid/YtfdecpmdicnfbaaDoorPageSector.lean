/-
  The document's Sector: the bytes of the k-th sector of a record.
-/
import Derived.Test.YtfdecpmdicnfbaaDoorPageRefA
import Derived.Test.YtfdecpmdicnfbaaDoorPageLawF
import Derived.Deep.RegionHeld
import Derived.Deep.CutRange
import Derived.Laws.IdiomStrings
import Derived.Lib.SlBytesConst
namespace Go.Proofs.YtfdecpmdicnfbaaDoor
open Go.RowKit DiskP SumP PageP

theorem Below.ret {B : Nat} {w w' : World} (h : Below B w w') : Below B w w' := h
theorem cut_tail (b : List UInt8) (i : Nat) : (bstr b).extract i b.length = bstr (b.drop i) := by
  rw [bstr_cut, List.take_of_length_le (by simp)]
theorem cut_head (b : List UInt8) (i : Nat) : (bstr b).extract 0 i = bstr (b.take i) := by
  rw [bstr_cut]
  simp
theorem mk64_nat (n : Nat) (h : n < 18446744073709551616) : mk64 (n : Int) = n := by unfold mk64; omega
theorem conv_blk (kind : UInt8) (w : World) (g : Nat) (h : Blk w g 5 #[.int .u8 (kind.toNat : Int)]) : (convert 27 9 (.slice (some ⟨g, 0, none⟩) 1 1)).run Tryd.prog w = .ok (.string (bstr [kind])) w :=
  run_str _ _ _ _ Tryd.underlying27 Tryd.underlying5 Tryd.underlying9 _ _ 1 1 (RB.of_blk h (by simp [cB, byteV])) rfl
theorem blk_bel {w w' : World} {g : Nat} {t : TypeId} {cs : Array Value} (h : Blk w g t cs) (b : Below w.heap.size w w') : Blk w' g t cs := h.below b h.lt
/-- A text's bytes. -/
theorem conv_bytes (l : List UInt8) (w : World) : ∃ c w', (convert 9 27 (.string (bstr l))).run Tryd.prog w = .ok (.slice (some ⟨w.heap.size, 0, none⟩) l.length c) w' ∧ RB w' (some ⟨w.heap.size, 0, none⟩) l ∧ Below w.heap.size w w' := by
  refine ⟨_, _, run_bytes_of_string w 9 27 5 (bstr l) Tryd.underlying9 Tryd.underlying27 Tryd.underlying5, ?_, ((Below.refl _ _).drew).alloc (Nat.le_refl _) _⟩
  intro _
  refine ⟨w.heap.size, 0, rfl, ?_, fun j v hj => ?_⟩
  · show w.heap.size < (w.drew.alloc _).heap.size
    have : (w.drew.alloc (Obj.cells (bytesRow (bstr l) (grownCap w (bstr l).size 0 5)) 5 ((bytesRow (bstr l) (grownCap w (bstr l).size 0 5)).size, (bytesRow (bstr l) (grownCap w (bstr l).size 0 5)).size + 1))).heap.size = w.heap.size + 1 := by simp
    omega
  · have hjl : j < l.length := by have := (List.getElem?_eq_some_iff.1 hj).1; rwa [cB_len] at this
    have h1 : (cB l)[j]? = some (.int .u8 ((l[j]).toNat : Int)) := by simp [cB, byteV, hjl]
    rw [h1] at hj
    injection hj with hj
    subst hj
    have h2 := World.cell?_alloc_mark w.drew (bytesRow (bstr l) (grownCap w (bstr l).size 0 5)) 5 ((bytesRow (bstr l) (grownCap w (bstr l).size 0 5)).size, (bytesRow (bstr l) (grownCap w (bstr l).size 0 5)).size + 1) (0 + j)
    refine h2.trans ?_
    rw [Nat.zero_add]
    exact bytesRow_at (bstr l) _ j hjl
attribute [local go_sem] bstr_add cut_tail cut_head
set_option maxHeartbeats 6400000 in
set_option maxRecDepth 100000 in
theorem rsector_calls (size : Nat) (kind : UInt8) (mark : Int) (b : List UInt8) (k : Nat) (w : World) (h19 : 19 ≤ size) (h4 : size ≤ 4096) (hk : k * (size - 18) ≤ b.length) (hb : b.length ≤ 1073741824) :
    Calls Tryd.prog 21 #[.int .i64 (size : Int), .int .u8 (kind.toNat : Int), .int .i64 mark, .string (bstr b), .int .i64 (k : Int)] w fun e w' => e = .returned (.string (bstr (sect size kind mark (b.drop (k * (size - 18))) (k == 0)))) ∧ Below w.heap.size w w' := by
  obtain ⟨p, hp⟩ : ∃ p, size = p + 18 := ⟨size - 18, by omega⟩
  have hper : per (size : Int) = (p : Int) := by unfold per; rw [if_neg (by omega)]; omega
  have PC := rper_calls (size : Int) w
  rw [hper] at PC
  have HP : Hid (size - 18 = p) := by show _ = _; omega
  have hp1 : 1 ≤ p := by omega
  have hp2 : p ≤ 4078 := by omega
  rw [HP.out] at hk ⊢
  have hs : (bstr b).size = b.length := rfl
  have hkp : (k : Int) * (p : Int) = ((k * p : Nat) : Int) := by simp
  obtain ⟨o, ho⟩ : ∃ o, k * p = o := ⟨_, rfl⟩
  rw [ho] at hk hkp ⊢
  have hdl : (b.drop o).length = b.length - o := List.length_drop
  obtain ⟨L, hL⟩ : ∃ L, b.drop o = L := ⟨_, rfl⟩
  rw [hL] at hdl ⊢
  have HSZ := Lib.hid hp
  have hLb : L.length ≤ 1073741824 := by omega
  clear hp hdl hper
  have hsL : (bstr L).size = L.length := rfl
  have cvD := fun w' : World => conv_blk kind (w'.alloc (.cells #[.int .u8 (kind.toNat : Int)] 5)).drew w'.heap.size (Blk.new w' 5 #[.int .u8 (kind.toNat : Int)]).drew
  have cvN := fun w' : World => conv_one w' kind
  have hbn := fun w' : World => Blk.new w' 5 #[.int .u8 (kind.toNat : Int)]
  have BG8 : ∀ w' : World, Calls Tryd.prog 36 #[.int .i64 mark, .int .i64 8] w' fun e w2 => e = .returned (.string (bstr (be 8 (mk64 mark)))) ∧ Below w'.heap.size w' w2 := fun w' => big_calls mark 8 w' (by omega)
  have BG4 : ∀ w' : World, Calls Tryd.prog 36 #[.int .i64 (L.length : Int), .int .i64 4] w' fun e w2 => e = .returned (.string (bstr (be 4 (mk64 (L.length : Int))))) ∧ Below w'.heap.size w' w2 := fun w' => big_calls (L.length : Int) 4 w' (by omega)
  rw [mk64_nat L.length (by omega)] at BG4
  have hl8 : (be 8 (mk64 mark)).length = 8 := be_len _ _
  have hl4 : (be 4 L.length).length = 4 := be_len _ _
  generalize hB8 : be 8 (mk64 mark) = B8 at *
  generalize hB4 : be 4 L.length = B4 at *
  have HE8 := Lib.hid hB8
  have HE4 := Lib.hid hB4
  clear hB8 hB4
  have z1 : ¬ 9223372036854775807 < (bstr [kind]).size + (bstr B8).size := by rw [bstr_size, bstr_size, hl8]; simp
  have z2 : ¬ 9223372036854775807 < (bstr (kind :: B8)).size + (bstr B4).size := by rw [bstr_size, bstr_size, hl4]; simp; omega
  have step : ∀ {a c : World}, Below w.heap.size w a → Below a.heap.size a c → Below w.heap.size w c := fun h k => h.trans (k.mono h.size)
  have al : ∀ {a : World} (o : Obj), Below w.heap.size w a → Below w.heap.size w (a.alloc o) := fun o h => h.alloc h.size _
  have dr : ∀ {a : World}, Below w.heap.size w a → Below w.heap.size w a.drew := fun h => h.drew
  go_enter Tryd.func21, Tryd.ntmps21
  go_wp2_with fail
  refine PC.mono ?_
  rintro e w1 ⟨rfl, rfl⟩
  clear PC
  go_upto_region 3 with fail
  go_cut [13] from 21 to 30 (fun s wx => s = .string (bstr (kind :: (B8 ++ B4))) ∧ Below w.heap.size w wx)
  case first =>
    go_region_held (fun wq => True) (exact trivial) (first
      | (go_at_call 36; (with_reducible refine (BG8 _).mono ?_); rintro e w8 ⟨rfl, b8⟩; try (have cv8 := conv_blk kind w8 w.heap.size (blk_bel (Blk.new w 5 #[.int .u8 (kind.toNat : Int)]).drew b8)))
      | (go_at_call 36; (with_reducible refine (BG4 _).mono ?_); rintro e w9 ⟨rfl, b9⟩; first
        | (have cv9 := conv_blk kind w9 w.heap.size (blk_bel (blk_bel (Blk.new w 5 #[.int .u8 (kind.toNat : Int)]).drew b8) b9))
        | (have cv9 := conv_blk kind w9 w8.heap.size (blk_bel (Blk.new w8 5 #[.int .u8 (kind.toNat : Int)]) b9))
        | skip))
    all_goals
      go_wp2_with fail
      go_meet
      first
        | exact ⟨rfl, step (step (dr (al _ (Below.refl _ _))) b8) b9⟩
        | exact ⟨rfl, step (al _ (step (dr (Below.refl _ _)) b8)) b9⟩
        | exact ⟨rfl, al _ (step (step (dr (Below.refl _ _)) b8) b9)⟩
  case rest =>
    clear cvD cvN BG8 z1 z2
    obtain ⟨rfl, bc⟩ := hcut
    have HB8 := Lib.hid hl8
    have HB4 := Lib.hid hl4
    obtain ⟨H1, hH1⟩ : ∃ H1, kind :: (B8 ++ B4) = H1 := ⟨_, rfl⟩
    have hlH1 : H1.length = 13 := by rw [← hH1]; simp; omega
    rw [hH1]
    have HH1 := Lib.hid hH1
    clear hH1 hl8 hl4
    have cv0 : ∀ w' : World, (convert 27 9 (.slice (some ⟨w'.heap.size, 0, none⟩) 1 1)).run Tryd.prog (w'.alloc (.cells #[.int .u8 0] 5)) = .ok (.string (bstr [0])) (w'.alloc (.cells #[.int .u8 0] 5)) := fun w' => conv_one w' 0
    have cv1 : ∀ w' : World, (convert 27 9 (.slice (some ⟨w'.heap.size, 0, none⟩) 1 1)).run Tryd.prog (w'.alloc (.cells #[.int .u8 1] 5)) = .ok (.string (bstr [1])) (w'.alloc (.cells #[.int .u8 1] 5)) := fun w' => conv_one w' 1
    have z5 : ¬ 9223372036854775807 < (bstr H1).size + (bstr [0]).size := by rw [bstr_size, bstr_size, hlH1]; simp
    have z6 : ¬ 9223372036854775807 < (bstr H1).size + (bstr [1]).size := by rw [bstr_size, bstr_size, hlH1]; simp
    go_upto_if 32 with fail
    go_cut [13] from 33 to 40 (fun s wx => s = .string (bstr (H1 ++ [if k == 0 then 1 else 0])) ∧ Below w.heap.size w wx)
    case first =>
      by_cases hk0 : k = 0
      · have ez : ((k : Int) == 0) = true := by rw [hk0]; rfl
        have e1 : (k == 0) = true := by rw [hk0]; rfl
        have HK : Hid ((if k == 0 then 1 else 0 : UInt8) = 1) := by show _ = _; rw [e1]; rfl
        clear hk0 e1
        go_wp2_with fail
        go_meet
        exact ⟨by rw [HK.out], al _ bc⟩
      · have ez : ((k : Int) == 0) = false := by rw [beq_eq_false_iff_ne]; omega
        have e1 : (k == 0) = false := by simpa using hk0
        have HK : Hid ((if k == 0 then 1 else 0 : UInt8) = 0) := by show _ = _; rw [e1]; rfl
        clear hk0 e1
        go_wp2_with fail
        go_meet
        exact ⟨by rw [HK.out], al _ bc⟩
    case rest =>
      obtain ⟨rfl, bc2⟩ := hcut
      clear z5 z6 bc
      have hlH2 : (H1 ++ [if k == 0 then 1 else 0]).length = 14 := by rw [List.length_append, hlH1]; rfl
      obtain ⟨H2, hH2⟩ : ∃ H2, H1 ++ [if k == 0 then 1 else 0] = H2 := ⟨_, rfl⟩
      rw [hH2] at hlH2
      rw [hH2]
      have HH2 := Lib.hid hH2
      clear hH2
      go_upto_if 44 with fail
      go_cut [12] from 45 to 47 (fun s wx => s = .string (bstr (L.take p)) ∧ Below w.heap.size w wx)
      case first =>
        by_cases hl : p < L.length
        · have d1 : decide ((p : Int) < (L.length : Int)) = true := decide_eq_true (by omega)
          have d1' : decide (p < L.length) = true := decide_eq_true hl
          go_wp2_with fail
          go_meet
          exact ⟨rfl, bc2⟩
        · have d1 : decide ((p : Int) < (L.length : Int)) = false := decide_eq_false (by omega)
          have d1' : decide (p < L.length) = false := decide_eq_false hl
          have HL : Hid (L.take p = L) := List.take_of_length_le (by omega)
          go_wp2_with fail
          go_meet
          exact ⟨by rw [HL.out], bc2⟩
      case rest =>
        obtain ⟨rfl, bc3⟩ := hcut
        clear bc2
        have hlT : (L.take p).length = min p L.length := List.length_take
        obtain ⟨X, hX⟩ : ∃ X, H2 ++ L.take p = X := ⟨_, rfl⟩
        have hlX : X.length = 14 + min p L.length := by rw [← hX, List.length_append, hlH2, hlT]
        have z7 : ¬ 9223372036854775807 < (bstr H2).size + (bstr (L.take p)).size := by rw [bstr_size, bstr_size, hlH2, hlT]; omega
        obtain ⟨N, hN⟩ : ∃ N, p - min p L.length = N := ⟨_, rfl⟩
        have hXN : X.length + N = p + 14 := by omega
        have HX := Lib.hid hX
        have HN := Lib.hid hN
        have hsz : size = p + 18 := HSZ.out
        clear hlT hN hlX
        have ST : Hid (∀ wr, Below w.heap.size w wr → ∃ j : Nat, j ≤ N ∧ Value.string (bstr X) = .string (bstr (X ++ List.replicate j 0)) ∧ Below w.heap.size w wr) := fun wr hb => ⟨0, Nat.zero_le _, by simp, hb⟩
        have HSZ2 := Lib.hid hsz
        clear hsz
        have hsz4 : (size : Int) - 4 = ((p + 14 : Nat) : Int) := by have := HSZ.out; omega
        have HS4 := Lib.hid hsz4
        clear hsz4
        have hpx : p + 14 ≤ 4092 := by omega
        go_wp2
        go_loopw [13] (fun s wr => ∃ j : Nat, j ≤ N ∧ s = .string (bstr (X ++ List.replicate j 0)) ∧ Below w.heap.size w wr) (fun s _ => match s with | .string b => p + 14 - b.size | _ => 0)
        case atStart => exact ⟨0, Nat.zero_le _, by rw [← HX.out]; simp, bc3⟩
        case round =>
          obtain ⟨j, hj, rfl, bel⟩ := hrel
          clear ST
          have hlj : (X ++ List.replicate j 0).length = X.length + j := by simp
          have hsj : (bstr (X ++ List.replicate j 0)).size = X.length + j := by rw [bstr_size, hlj]
          by_cases hjN : j < N
          · have d2 : decide (((X.length : Int) + (j : Int)) < (size : Int) - 4) = true := decide_eq_true (by rw [HS4.out]; omega)
            have HA : Hid (X ++ List.replicate j 0 ++ [0] = X ++ List.replicate (j + 1) 0) := by show _ = _; rw [List.append_assoc, List.replicate_succ']
            have z8 : ¬ 9223372036854775807 < (bstr (X ++ List.replicate j 0)).size + (bstr [0]).size := by rw [hsj, bstr_size]; simp; omega
            generalize hY : X ++ List.replicate j 0 = Y at *
            clear hY
            go_wp2
            go_roundw
            case rel => exact ⟨j + 1, by omega, by rw [HA.out], bel.alloc bel.size _⟩
            case measure =>
              show p + 14 - (bstr (Y ++ [0])).size < p + 14 - (bstr Y).size
              rw [bstr_size, bstr_size, List.length_append, hlj]
              simp
              omega
          · obtain rfl : j = N := by omega
            have d2 : decide (((X.length : Int) + (j : Int)) < (size : Int) - 4) = false := decide_eq_false (by rw [HS4.out]; omega)
            have d2' : decide ((p : Int) + 14 < (size : Int) - 4) = false := decide_eq_false (by rw [HS4.out]; omega)
            have HB : Hid (X ++ List.replicate j 0 = body size kind mark L (k == 0)) := by
              show _ = _
              unfold body head
              rw [← HX.out, ← HH2.out, ← HH1.out, HP.out, HE8.out, HE4.out]
              have e1 : p - (L.take p).length = j := by rw [List.length_take]; exact HN.out
              rw [e1]
              rfl
            generalize hY : X ++ List.replicate j 0 = Y at *
            clear hY
            have hYl : Y.length = p + 14 := by rw [hlj]; omega
            obtain ⟨c, wv, hcv, rb, bb⟩ := conv_bytes Y wr
            have OF : Calls Tryd.prog 37 #[.slice (some ⟨wr.heap.size, 0, none⟩) Y.length c] wv fun e w' => e = .returned (.int .u32 ((crc Y : Nat) : Int)) ∧ wv = w' := refof_calls Y (some ⟨wr.heap.size, 0, none⟩) c wv (by omega) rb
            rw [hYl] at OF
            have hcr := crc_lt Y
            have BG := fun w' : World => big_calls ((crc Y : Nat) : Int) 4 w' (by omega)
            rw [mk64_nat (crc Y) (by omega)] at BG
            have HR : Hid (bstr (Y ++ be 4 (crc Y)) = bstr (sect size kind mark L (k == 0))) := by
              show _ = _
              unfold sect
              rw [← HB.out]
            have hl4 : (be 4 (crc Y)).length = 4 := be_len _ _
            have z9 : ¬ 9223372036854775807 < (bstr Y).size + (bstr (be 4 (crc Y))).size := by rw [bstr_size, bstr_size, hl4, hYl]; omega
            generalize crc Y = C at *
            have bel2 := bel.trans (bb.mono bel.size)
            clear rb bb hlj
            go_wp2_with fail
            refine OF.mono ?_
            clear OF
            rintro e w2 ⟨rfl, rfl⟩
            go_wp2_with fail
            refine (BG wv).mono ?_
            clear BG
            rintro e w3 ⟨rfl, b3⟩
            go_wp2
            go_ret
            exact ⟨by rw [← HR.out]; rfl, bel2.trans (b3.mono bel2.size)⟩
end Go.Proofs.YtfdecpmdicnfbaaDoor
