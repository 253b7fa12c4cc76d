/-
  The document's Parse.
-/
import Derived.Test.YtpcedmiehoimbaaDoorSpanWalkH
namespace Go.Proofs.YtpcedmiehoimbaaDoor
open Go.RowKit SpanP
theorem bAt_left {f t : List UInt8} {k : Nat} (h : k < f.length) (hf : ∀ c ∈ f, c ≠ 45) : (bAt (f ++ 45 :: t) k != 45) = true := by
  have h' : k < (f ++ 45 :: t).length := by simp; omega
  rw [bAt_get h', List.getElem_append_left h]
  have := hf f[k] (List.getElem_mem h)
  simp only [bne_iff_ne, ne_eq]
  intro e
  exact this (by rw [← UInt8.toNat_inj]; have : (45 : UInt8).toNat = 45 := rfl; omega)
theorem bAt_mid (f t : List UInt8) : (bAt (f ++ 45 :: t) f.length != 45) = false := by
  have h' : f.length < (f ++ 45 :: t).length := by simp
  rw [bAt_get h']
  simp
theorem bAt_no {l : List UInt8} {k : Nat} (h : k < l.length) (hf : ∀ c ∈ l, c ≠ 45) : (bAt l k != 45) = true := by
  rw [bAt_get h]
  have := hf l[k] (List.getElem_mem h)
  simp only [bne_iff_ne, ne_eq]
  intro e
  exact this (by rw [← UInt8.toNat_inj]; have : (45 : UInt8).toNat = 45 := rfl; omega)
theorem bstr_cut (l : List UInt8) (i j : Nat) : (bstr l).extract i j = bstr ((l.drop i).take (j - i)) := by
  unfold bstr
  apply ByteArray.ext
  simp [ByteArray.data_extract]
theorem cut_l (f t : List UInt8) : (bstr (f ++ 45 :: t)).extract 0 f.length = bstr f := by
  rw [bstr_cut]; simp
theorem cut_r (f t : List UInt8) (n : Nat) (hn : n = (f ++ 45 :: t).length) : (bstr (f ++ 45 :: t)).extract (f.length + 1) n = bstr t := by
  subst hn
  rw [bstr_cut]
  congr 1
  rw [show f ++ 45 :: t = (f ++ [45]) ++ t by simp, show f.length + 1 = (f ++ [45]).length by simp, List.drop_left]
  rw [List.take_of_length_le (by simp; omega)]
theorem end_same (w : World) : Calls Tryd.prog 35 #[] w fun e w' => e = .returned (.int .i64 4611686018427387904) ∧ w = w' := by
  go_enter Tryd.func35, Tryd.ntmps35
  go_wp2
  go_ret
  exact ⟨rfl, rfl⟩
theorem rparse_no (l : List UInt8) (hl : l.length ≤ 1000) (hd : ∀ c ∈ l, c ≠ 45) (w : World) : Calls Tryd.prog 33 #[.string (bstr l)] w fun e w' => e = .returned (.tuple #[.agg #[.int .i64 0, .int .i64 0], .int .i64 2]) ∧ Gr w w' := by
  have hb := get_bAt l
  have hs : (bstr l).size = l.length := rfl
  have HD : Hid (∀ k, k < l.length → (bAt l k != 45) = true) := fun k h => bAt_no h hd
  clear hd
  have g0 : Gr w (w.alloc (.cells #[.int .i64 0, .int .i64 0] 23)) := (Gr.refl w).alloc _
  have c0 : Blk (w.alloc (.cells #[.int .i64 0, .int .i64 0] 23)) w.heap.size _ _ := Blk.new w 23 #[.int .i64 0, .int .i64 0]
  have d0 := c0.at_ (i := 0) (v := .int .i64 0) rfl
  have d1 := c0.at_ (i := 1) (v := .int .i64 0) rfl
  have f0 := c0.frozen 0
  have f1 := c0.frozen 1
  go_enter Tryd.func33, Tryd.ntmps33
  go_wp2
  go_loop [4] (fun i => ∃ (k : Nat), k ≤ l.length ∧ i = .int .i64 k) (fun i => l.length - (intOf i).toNat)
  case atStart => exact ⟨0, by omega, rfl⟩
  case round =>
    obtain ⟨k, hk, rfl⟩ := hrel
    by_cases hlt : k < l.length
    · have hx := HD.out k hlt
      have hdec : decide ((k : Int) < (l.length : Int)) = true := by simp; omega
      go_wp2
      go_round
      case rel => exact ⟨k + 1, by omega, by go_num⟩
      case measure => simp [intOf]; omega
    · obtain rfl : k = l.length := by omega
      go_wp2
      all_goals refine bodyPost_ret (v := _) (by simp [results, Tryd.results33, go_sem, *] <;> rfl) rfl ⟨rfl, ?_⟩
      all_goals repeat (first | exact g0 | refine Gr.set_ ?_ (by simp) _)
set_option maxHeartbeats 1600000 in
theorem rparse_ow (l f : List UInt8) (x : Int) (hr : rightB x 4611686018427387904 = false) (hl : l = f ++ 45 :: []) (hx : numL f = x) (hlen : l.length ≤ 1000) (hd : ∀ c ∈ f, c ≠ 45) (w : World) : Calls Tryd.prog 33 #[.string (bstr l)] w fun e w' => e = .returned (.tuple #[.agg #[.int .i64 0, .int .i64 0], .int .i64 2]) ∧ Gr w w' := by
  have hb := get_bAt l
  have hs : (bstr l).size = l.length := rfl
  have HD : Hid (∀ k, k < f.length → (bAt l k != 45) = true) := fun k h => by rw [hl]; exact bAt_left h hd
  have HM : (bAt l f.length != 45) = false := by rw [hl]; exact bAt_mid f _
  have HX : (bstr l).extract 0 f.length = bstr f := by rw [hl]; exact cut_l f _
  have hfl : f.length + 1 ≤ l.length := by rw [hl]; simp
  have hnf : Hid (∀ w : World, Calls Tryd.prog 42 #[.string (bstr f)] w fun e w' => e = .returned (.int .i64 x) ∧ Gr w w') := fun w => hx ▸ rnumber_calls f (by omega) w
  have hll : ¬ (f.length + 1 < l.length) := by rw [hl]; simp
  have hlz : decide ((f.length : Int) + 1 < (l.length : Int)) = false := by simp; omega
  clear hl hx hd
  have g0 : Gr w (w.alloc (.cells #[.int .i64 0, .int .i64 0] 23)) := (Gr.refl w).alloc _
  have c0 : Blk (w.alloc (.cells #[.int .i64 0, .int .i64 0] 23)) w.heap.size _ _ := Blk.new w 23 #[.int .i64 0, .int .i64 0]
  go_enter Tryd.func33, Tryd.ntmps33
  go_wp2
  go_loop [4] (fun i => ∃ (k : Nat), k ≤ f.length ∧ i = .int .i64 k) (fun i => f.length - (intOf i).toNat)
  case atStart => exact ⟨0, by omega, rfl⟩
  case round =>
    obtain ⟨k, hk, rfl⟩ := hrel
    by_cases hlt : k < f.length
    · have hx := HD.out k hlt
      have hk' : k < l.length := by omega
      have hdec : decide ((k : Int) < (l.length : Int)) = true := by simp; omega
      go_wp2
      go_round
      case rel => exact ⟨k + 1, by omega, by go_num⟩
      case measure => simp [intOf]; omega
    · obtain rfl : k = f.length := by omega
      have hk' : f.length < l.length := by omega
      have hdec : decide ((f.length : Int) < (l.length : Int)) = true := by simp; omega
      have hne0 : ((f.length : Int) == (l.length : Int)) = false := beq_eq_false_iff_ne.2 (by omega)
      go_wp2_with (first | (go_at_call 35; refine (end_same _).mono ?_; rintro e we ⟨rfl, rfl⟩) | (go_at_call 42; refine (hnf.out _).mono ?_; rintro e w1 ⟨rfl, g1⟩; have R1 := c0.below g1 c0.lt; have G1 := g0.trans g1; have gx : Gr w1 (w1.alloc (.cells #[.int .i64 x, .int .i64 4611686018427387904] 23)) := (Gr.refl w1).alloc _; have X1 := Blk.new w1 23 #[.int .i64 x, .int .i64 4611686018427387904]; have R2 := R1.below gx R1.lt; have hne : w.heap.size ≠ w1.heap.size := Nat.ne_of_lt R1.lt; have hne' : w1.heap.size ≠ w.heap.size := Ne.symm hne; have hltw : w.heap.size < w1.heap.size := R1.lt; have Gx := G1.trans gx; have X5 := X1; have R6 := R2; have G3 := Gx; have cq0 := X1.at_ (i := 0) (v := .int .i64 x) rfl; have cq1 := X1.at_ (i := 1) (v := .int .i64 4611686018427387904) rfl) | (go_at_call 14; refine (rright_calls x (4611686018427387904) _).mono ?_; rintro e w5 ⟨rfl, g5⟩; have G5 := G3.trans g5; have X6 := X5.below g5 X5.lt; have R7 := R6.below g5 R6.lt; have cs0 := X6.at_ (i := 0) (v := .int .i64 x) rfl; have cs1 := X6.at_ (i := 1) (v := .int .i64 (4611686018427387904)) rfl; have ct0 := R7.at_ (i := 0) (v := .int .i64 0) rfl; have ct1 := R7.at_ (i := 1) (v := .int .i64 0) rfl; have fs0 := R7.frozen 0; have fs1 := R7.frozen 1))
      all_goals refine bodyPost_ret (v := _) (by simp [results, Tryd.results33, go_sem, *] <;> rfl) rfl ⟨rfl, ?_⟩
      all_goals repeat (first | exact G5 | refine Gr.set_ ?_ (by simp) _)
set_option maxHeartbeats 1600000 in
theorem rparse_oy (l f : List UInt8) (x : Int) (hr : rightB x 4611686018427387904 = true) (he : textL x 4611686018427387904 = l) (hl : l = f ++ 45 :: []) (hx : numL f = x) (hlen : l.length ≤ 1000) (hd : ∀ c ∈ f, c ≠ 45) (w : World) : Calls Tryd.prog 33 #[.string (bstr l)] w fun e w' => e = .returned (.tuple #[.agg #[.int .i64 x, .int .i64 (4611686018427387904)], .int .i64 0]) ∧ Gr w w' := by
  have hb := get_bAt l
  have hs : (bstr l).size = l.length := rfl
  have HD : Hid (∀ k, k < f.length → (bAt l k != 45) = true) := fun k h => by rw [hl]; exact bAt_left h hd
  have HM : (bAt l f.length != 45) = false := by rw [hl]; exact bAt_mid f _
  have HX : (bstr l).extract 0 f.length = bstr f := by rw [hl]; exact cut_l f _
  have hfl : f.length + 1 ≤ l.length := by rw [hl]; simp
  have hnf : Hid (∀ w : World, Calls Tryd.prog 42 #[.string (bstr f)] w fun e w' => e = .returned (.int .i64 x) ∧ Gr w w') := fun w => hx ▸ rnumber_calls f (by omega) w
  have hll : ¬ (f.length + 1 < l.length) := by rw [hl]; simp
  have hlz : decide ((f.length : Int) + 1 < (l.length : Int)) = false := by simp; omega
  have hee : ((bstr (textL x 4611686018427387904)).toList == (bstr l).toList) = decide (textL x 4611686018427387904 = l) := by rw [bstr_list, bstr_list, Bool.eq_iff_iff]; simp
  rw [decide_eq_true he] at hee
  clear he
  clear hl hx hd
  have g0 : Gr w (w.alloc (.cells #[.int .i64 0, .int .i64 0] 23)) := (Gr.refl w).alloc _
  have c0 : Blk (w.alloc (.cells #[.int .i64 0, .int .i64 0] 23)) w.heap.size _ _ := Blk.new w 23 #[.int .i64 0, .int .i64 0]
  go_enter Tryd.func33, Tryd.ntmps33
  go_wp2
  go_loop [4] (fun i => ∃ (k : Nat), k ≤ f.length ∧ i = .int .i64 k) (fun i => f.length - (intOf i).toNat)
  case atStart => exact ⟨0, by omega, rfl⟩
  case round =>
    obtain ⟨k, hk, rfl⟩ := hrel
    by_cases hlt : k < f.length
    · have hx := HD.out k hlt
      have hk' : k < l.length := by omega
      have hdec : decide ((k : Int) < (l.length : Int)) = true := by simp; omega
      go_wp2
      go_round
      case rel => exact ⟨k + 1, by omega, by go_num⟩
      case measure => simp [intOf]; omega
    · obtain rfl : k = f.length := by omega
      have hk' : f.length < l.length := by omega
      have hdec : decide ((f.length : Int) < (l.length : Int)) = true := by simp; omega
      have hne0 : ((f.length : Int) == (l.length : Int)) = false := beq_eq_false_iff_ne.2 (by omega)
      go_wp2_with (first | (go_at_call 35; refine (end_same _).mono ?_; rintro e we ⟨rfl, rfl⟩) | (go_at_call 42; refine (hnf.out _).mono ?_; rintro e w1 ⟨rfl, g1⟩; have R1 := c0.below g1 c0.lt; have G1 := g0.trans g1; have gx : Gr w1 (w1.alloc (.cells #[.int .i64 x, .int .i64 4611686018427387904] 23)) := (Gr.refl w1).alloc _; have X1 := Blk.new w1 23 #[.int .i64 x, .int .i64 4611686018427387904]; have R2 := R1.below gx R1.lt; have hne : w.heap.size ≠ w1.heap.size := Nat.ne_of_lt R1.lt; have hne' : w1.heap.size ≠ w.heap.size := Ne.symm hne; have hltw : w.heap.size < w1.heap.size := R1.lt; have Gx := G1.trans gx; have X5 := X1; have R6 := R2; have G3 := Gx; have cq0 := X1.at_ (i := 0) (v := .int .i64 x) rfl; have cq1 := X1.at_ (i := 1) (v := .int .i64 4611686018427387904) rfl) | (go_at_call 14; refine (rright_calls x (4611686018427387904) _).mono ?_; rintro e w5 ⟨rfl, g5⟩; have G5 := G3.trans g5; have X6 := X5.below g5 X5.lt; have R7 := R6.below g5 R6.lt; have cs0 := X6.at_ (i := 0) (v := .int .i64 x) rfl; have cs1 := X6.at_ (i := 1) (v := .int .i64 (4611686018427387904)) rfl; have ct0 := R7.at_ (i := 0) (v := .int .i64 0) rfl; have ct1 := R7.at_ (i := 1) (v := .int .i64 0) rfl; have fs0 := R7.frozen 0; have fs1 := R7.frozen 1) | (go_at_call 31; refine (rtext_calls x (4611686018427387904) _).mono ?_; rintro e w6 ⟨rfl, g6⟩; have G6 := G5.trans g6; have X7 := X6.below g6 X6.lt; have R8 := R7.below g6 R7.lt; have cu0 := X7.at_ (i := 0) (v := .int .i64 x) rfl; have cu1 := X7.at_ (i := 1) (v := .int .i64 (4611686018427387904)) rfl; have cv0 := R8.at_ (i := 0) (v := .int .i64 0) rfl; have cv1 := R8.at_ (i := 1) (v := .int .i64 0) rfl; have fv0 := R8.frozen 0; have fv1 := R8.frozen 1))
      all_goals refine bodyPost_ret (v := _) (by simp [results, Tryd.results33, go_sem, *] <;> rfl) rfl ⟨rfl, ?_⟩
      all_goals repeat (first | exact G6 | refine Gr.set_ ?_ (by simp) _)
set_option maxHeartbeats 1600000 in
theorem rparse_on (l f : List UInt8) (x : Int) (hr : rightB x 4611686018427387904 = true) (he : textL x 4611686018427387904 ≠ l) (hl : l = f ++ 45 :: []) (hx : numL f = x) (hlen : l.length ≤ 1000) (hd : ∀ c ∈ f, c ≠ 45) (w : World) : Calls Tryd.prog 33 #[.string (bstr l)] w fun e w' => e = .returned (.tuple #[.agg #[.int .i64 0, .int .i64 0], .int .i64 2]) ∧ Gr w w' := by
  have hb := get_bAt l
  have hs : (bstr l).size = l.length := rfl
  have HD : Hid (∀ k, k < f.length → (bAt l k != 45) = true) := fun k h => by rw [hl]; exact bAt_left h hd
  have HM : (bAt l f.length != 45) = false := by rw [hl]; exact bAt_mid f _
  have HX : (bstr l).extract 0 f.length = bstr f := by rw [hl]; exact cut_l f _
  have hfl : f.length + 1 ≤ l.length := by rw [hl]; simp
  have hnf : Hid (∀ w : World, Calls Tryd.prog 42 #[.string (bstr f)] w fun e w' => e = .returned (.int .i64 x) ∧ Gr w w') := fun w => hx ▸ rnumber_calls f (by omega) w
  have hll : ¬ (f.length + 1 < l.length) := by rw [hl]; simp
  have hlz : decide ((f.length : Int) + 1 < (l.length : Int)) = false := by simp; omega
  have hee : ((bstr (textL x 4611686018427387904)).toList == (bstr l).toList) = decide (textL x 4611686018427387904 = l) := by rw [bstr_list, bstr_list, Bool.eq_iff_iff]; simp
  rw [decide_eq_false he] at hee
  clear he
  clear hl hx hd
  have g0 : Gr w (w.alloc (.cells #[.int .i64 0, .int .i64 0] 23)) := (Gr.refl w).alloc _
  have c0 : Blk (w.alloc (.cells #[.int .i64 0, .int .i64 0] 23)) w.heap.size _ _ := Blk.new w 23 #[.int .i64 0, .int .i64 0]
  go_enter Tryd.func33, Tryd.ntmps33
  go_wp2
  go_loop [4] (fun i => ∃ (k : Nat), k ≤ f.length ∧ i = .int .i64 k) (fun i => f.length - (intOf i).toNat)
  case atStart => exact ⟨0, by omega, rfl⟩
  case round =>
    obtain ⟨k, hk, rfl⟩ := hrel
    by_cases hlt : k < f.length
    · have hx := HD.out k hlt
      have hk' : k < l.length := by omega
      have hdec : decide ((k : Int) < (l.length : Int)) = true := by simp; omega
      go_wp2
      go_round
      case rel => exact ⟨k + 1, by omega, by go_num⟩
      case measure => simp [intOf]; omega
    · obtain rfl : k = f.length := by omega
      have hk' : f.length < l.length := by omega
      have hdec : decide ((f.length : Int) < (l.length : Int)) = true := by simp; omega
      have hne0 : ((f.length : Int) == (l.length : Int)) = false := beq_eq_false_iff_ne.2 (by omega)
      go_wp2_with (first | (go_at_call 35; refine (end_same _).mono ?_; rintro e we ⟨rfl, rfl⟩) | (go_at_call 42; refine (hnf.out _).mono ?_; rintro e w1 ⟨rfl, g1⟩; have R1 := c0.below g1 c0.lt; have G1 := g0.trans g1; have gx : Gr w1 (w1.alloc (.cells #[.int .i64 x, .int .i64 4611686018427387904] 23)) := (Gr.refl w1).alloc _; have X1 := Blk.new w1 23 #[.int .i64 x, .int .i64 4611686018427387904]; have R2 := R1.below gx R1.lt; have hne : w.heap.size ≠ w1.heap.size := Nat.ne_of_lt R1.lt; have hne' : w1.heap.size ≠ w.heap.size := Ne.symm hne; have hltw : w.heap.size < w1.heap.size := R1.lt; have Gx := G1.trans gx; have X5 := X1; have R6 := R2; have G3 := Gx; have cq0 := X1.at_ (i := 0) (v := .int .i64 x) rfl; have cq1 := X1.at_ (i := 1) (v := .int .i64 4611686018427387904) rfl) | (go_at_call 14; refine (rright_calls x (4611686018427387904) _).mono ?_; rintro e w5 ⟨rfl, g5⟩; have G5 := G3.trans g5; have X6 := X5.below g5 X5.lt; have R7 := R6.below g5 R6.lt; have cs0 := X6.at_ (i := 0) (v := .int .i64 x) rfl; have cs1 := X6.at_ (i := 1) (v := .int .i64 (4611686018427387904)) rfl; have ct0 := R7.at_ (i := 0) (v := .int .i64 0) rfl; have ct1 := R7.at_ (i := 1) (v := .int .i64 0) rfl; have fs0 := R7.frozen 0; have fs1 := R7.frozen 1) | (go_at_call 31; refine (rtext_calls x (4611686018427387904) _).mono ?_; rintro e w6 ⟨rfl, g6⟩; have G6 := G5.trans g6; have X7 := X6.below g6 X6.lt; have R8 := R7.below g6 R7.lt; have cu0 := X7.at_ (i := 0) (v := .int .i64 x) rfl; have cu1 := X7.at_ (i := 1) (v := .int .i64 (4611686018427387904)) rfl; have cv0 := R8.at_ (i := 0) (v := .int .i64 0) rfl; have cv1 := R8.at_ (i := 1) (v := .int .i64 0) rfl; have fv0 := R8.frozen 0; have fv1 := R8.frozen 1))
      all_goals refine bodyPost_ret (v := _) (by simp [results, Tryd.results33, go_sem, *] <;> rfl) rfl ⟨rfl, ?_⟩
      all_goals repeat (first | exact G6 | refine Gr.set_ ?_ (by simp) _)
set_option maxHeartbeats 1600000 in
theorem rparse_tw (l f : List UInt8) (x : Int) (t : List UInt8) (y : Int) (ht0 : t ≠ []) (hy : numL t = y) (hr : rightB x y = false) (hl : l = f ++ 45 :: t) (hx : numL f = x) (hlen : l.length ≤ 1000) (hd : ∀ c ∈ f, c ≠ 45) (w : World) : Calls Tryd.prog 33 #[.string (bstr l)] w fun e w' => e = .returned (.tuple #[.agg #[.int .i64 0, .int .i64 0], .int .i64 2]) ∧ Gr w w' := by
  have hb := get_bAt l
  have hs : (bstr l).size = l.length := rfl
  have HD : Hid (∀ k, k < f.length → (bAt l k != 45) = true) := fun k h => by rw [hl]; exact bAt_left h hd
  have HM : (bAt l f.length != 45) = false := by rw [hl]; exact bAt_mid f _
  have HX : (bstr l).extract 0 f.length = bstr f := by rw [hl]; exact cut_l f _
  have hfl : f.length + 1 ≤ l.length := by rw [hl]; simp
  have hnf : Hid (∀ w : World, Calls Tryd.prog 42 #[.string (bstr f)] w fun e w' => e = .returned (.int .i64 x) ∧ Gr w w') := fun w => hx ▸ rnumber_calls f (by omega) w
  have htl : t.length ≤ 1000 := by rw [hl] at hlen; simp at hlen; omega
  have HY : (bstr l).extract (f.length + 1) l.length = bstr t := by rw [hl]; exact cut_r f t _ rfl
  have hnt : Hid (∀ w : World, Calls Tryd.prog 42 #[.string (bstr t)] w fun e w' => e = .returned (.int .i64 y) ∧ Gr w w') := fun w => hy ▸ rnumber_calls t htl w
  have hll : f.length + 1 < l.length := by rw [hl]; have := List.length_pos_iff.2 ht0; simp; omega
  clear ht0 hy
  clear hl hx hd
  have g0 : Gr w (w.alloc (.cells #[.int .i64 0, .int .i64 0] 23)) := (Gr.refl w).alloc _
  have c0 : Blk (w.alloc (.cells #[.int .i64 0, .int .i64 0] 23)) w.heap.size _ _ := Blk.new w 23 #[.int .i64 0, .int .i64 0]
  go_enter Tryd.func33, Tryd.ntmps33
  go_wp2
  go_loop [4] (fun i => ∃ (k : Nat), k ≤ f.length ∧ i = .int .i64 k) (fun i => f.length - (intOf i).toNat)
  case atStart => exact ⟨0, by omega, rfl⟩
  case round =>
    obtain ⟨k, hk, rfl⟩ := hrel
    by_cases hlt : k < f.length
    · have hx := HD.out k hlt
      have hk' : k < l.length := by omega
      have hdec : decide ((k : Int) < (l.length : Int)) = true := by simp; omega
      go_wp2
      go_round
      case rel => exact ⟨k + 1, by omega, by go_num⟩
      case measure => simp [intOf]; omega
    · obtain rfl : k = f.length := by omega
      have hk' : f.length < l.length := by omega
      have hdec : decide ((f.length : Int) < (l.length : Int)) = true := by simp; omega
      have hne0 : ((f.length : Int) == (l.length : Int)) = false := beq_eq_false_iff_ne.2 (by omega)
      go_wp2_with (first | (go_at_call 35; refine (end_same _).mono ?_; rintro e we ⟨rfl, rfl⟩) | (go_at_call 42; have _q := X3; refine (hnt.out _).mono ?_; rintro e w3 ⟨rfl, g3⟩; have X4 := X3.below g3 X3.lt; have R5 := R2.below g3 R2.lt; have G3 : Gr w (w3.setCell ⟨w1.heap.size, 1, none⟩ (.int .i64 y)) := (Gx.trans g3).set_ (Nat.le_of_lt hltw) _; have X5 : Blk (w3.setCell ⟨w1.heap.size, 1, none⟩ (.int .i64 y)) w1.heap.size 23 #[.int .i64 x, .int .i64 y] := X4.set_ 1 (.int .i64 y); have R6 := R5.far (p := ⟨w1.heap.size, 1, none⟩) hne (.int .i64 y); have cr0 := X4.at_ (i := 0) (v := .int .i64 x) rfl; have cr1 := X4.at_ (i := 1) (v := .int .i64 4611686018427387904) rfl; have fr1 := X4.frozen 1; have cq0 := X5.at_ (i := 0) (v := .int .i64 x) rfl; have cq1 := X5.at_ (i := 1) (v := .int .i64 y) rfl) | (go_at_call 42; refine (hnf.out _).mono ?_; rintro e w1 ⟨rfl, g1⟩; have R1 := c0.below g1 c0.lt; have G1 := g0.trans g1; have gx : Gr w1 (w1.alloc (.cells #[.int .i64 x, .int .i64 4611686018427387904] 23)) := (Gr.refl w1).alloc _; have X1 := Blk.new w1 23 #[.int .i64 x, .int .i64 4611686018427387904]; have R2 := R1.below gx R1.lt; have hne : w.heap.size ≠ w1.heap.size := Nat.ne_of_lt R1.lt; have hne' : w1.heap.size ≠ w.heap.size := Ne.symm hne; have hltw : w.heap.size < w1.heap.size := R1.lt; have Gx := G1.trans gx; have X3 := X1) | (go_at_call 14; refine (rright_calls x (y) _).mono ?_; rintro e w5 ⟨rfl, g5⟩; have G5 := G3.trans g5; have X6 := X5.below g5 X5.lt; have R7 := R6.below g5 R6.lt; have cs0 := X6.at_ (i := 0) (v := .int .i64 x) rfl; have cs1 := X6.at_ (i := 1) (v := .int .i64 (y)) rfl; have ct0 := R7.at_ (i := 0) (v := .int .i64 0) rfl; have ct1 := R7.at_ (i := 1) (v := .int .i64 0) rfl; have fs0 := R7.frozen 0; have fs1 := R7.frozen 1))
      all_goals refine bodyPost_ret (v := _) (by simp [results, Tryd.results33, go_sem, *] <;> rfl) rfl ⟨rfl, ?_⟩
      all_goals repeat (first | exact G5 | refine Gr.set_ ?_ (by simp) _)
set_option maxHeartbeats 1600000 in
theorem rparse_ty (l f : List UInt8) (x : Int) (t : List UInt8) (y : Int) (ht0 : t ≠ []) (hy : numL t = y) (hr : rightB x y = true) (he : textL x y = l) (hl : l = f ++ 45 :: t) (hx : numL f = x) (hlen : l.length ≤ 1000) (hd : ∀ c ∈ f, c ≠ 45) (w : World) : Calls Tryd.prog 33 #[.string (bstr l)] w fun e w' => e = .returned (.tuple #[.agg #[.int .i64 x, .int .i64 (y)], .int .i64 0]) ∧ Gr w w' := by
  have hb := get_bAt l
  have hs : (bstr l).size = l.length := rfl
  have HD : Hid (∀ k, k < f.length → (bAt l k != 45) = true) := fun k h => by rw [hl]; exact bAt_left h hd
  have HM : (bAt l f.length != 45) = false := by rw [hl]; exact bAt_mid f _
  have HX : (bstr l).extract 0 f.length = bstr f := by rw [hl]; exact cut_l f _
  have hfl : f.length + 1 ≤ l.length := by rw [hl]; simp
  have hnf : Hid (∀ w : World, Calls Tryd.prog 42 #[.string (bstr f)] w fun e w' => e = .returned (.int .i64 x) ∧ Gr w w') := fun w => hx ▸ rnumber_calls f (by omega) w
  have htl : t.length ≤ 1000 := by rw [hl] at hlen; simp at hlen; omega
  have HY : (bstr l).extract (f.length + 1) l.length = bstr t := by rw [hl]; exact cut_r f t _ rfl
  have hnt : Hid (∀ w : World, Calls Tryd.prog 42 #[.string (bstr t)] w fun e w' => e = .returned (.int .i64 y) ∧ Gr w w') := fun w => hy ▸ rnumber_calls t htl w
  have hll : f.length + 1 < l.length := by rw [hl]; have := List.length_pos_iff.2 ht0; simp; omega
  clear ht0 hy
  have hee : ((bstr (textL x y)).toList == (bstr l).toList) = decide (textL x y = l) := by rw [bstr_list, bstr_list, Bool.eq_iff_iff]; simp
  rw [decide_eq_true he] at hee
  clear he
  clear hl hx hd
  have g0 : Gr w (w.alloc (.cells #[.int .i64 0, .int .i64 0] 23)) := (Gr.refl w).alloc _
  have c0 : Blk (w.alloc (.cells #[.int .i64 0, .int .i64 0] 23)) w.heap.size _ _ := Blk.new w 23 #[.int .i64 0, .int .i64 0]
  go_enter Tryd.func33, Tryd.ntmps33
  go_wp2
  go_loop [4] (fun i => ∃ (k : Nat), k ≤ f.length ∧ i = .int .i64 k) (fun i => f.length - (intOf i).toNat)
  case atStart => exact ⟨0, by omega, rfl⟩
  case round =>
    obtain ⟨k, hk, rfl⟩ := hrel
    by_cases hlt : k < f.length
    · have hx := HD.out k hlt
      have hk' : k < l.length := by omega
      have hdec : decide ((k : Int) < (l.length : Int)) = true := by simp; omega
      go_wp2
      go_round
      case rel => exact ⟨k + 1, by omega, by go_num⟩
      case measure => simp [intOf]; omega
    · obtain rfl : k = f.length := by omega
      have hk' : f.length < l.length := by omega
      have hdec : decide ((f.length : Int) < (l.length : Int)) = true := by simp; omega
      have hne0 : ((f.length : Int) == (l.length : Int)) = false := beq_eq_false_iff_ne.2 (by omega)
      go_wp2_with (first | (go_at_call 35; refine (end_same _).mono ?_; rintro e we ⟨rfl, rfl⟩) | (go_at_call 42; have _q := X3; refine (hnt.out _).mono ?_; rintro e w3 ⟨rfl, g3⟩; have X4 := X3.below g3 X3.lt; have R5 := R2.below g3 R2.lt; have G3 : Gr w (w3.setCell ⟨w1.heap.size, 1, none⟩ (.int .i64 y)) := (Gx.trans g3).set_ (Nat.le_of_lt hltw) _; have X5 : Blk (w3.setCell ⟨w1.heap.size, 1, none⟩ (.int .i64 y)) w1.heap.size 23 #[.int .i64 x, .int .i64 y] := X4.set_ 1 (.int .i64 y); have R6 := R5.far (p := ⟨w1.heap.size, 1, none⟩) hne (.int .i64 y); have cr0 := X4.at_ (i := 0) (v := .int .i64 x) rfl; have cr1 := X4.at_ (i := 1) (v := .int .i64 4611686018427387904) rfl; have fr1 := X4.frozen 1; have cq0 := X5.at_ (i := 0) (v := .int .i64 x) rfl; have cq1 := X5.at_ (i := 1) (v := .int .i64 y) rfl) | (go_at_call 42; refine (hnf.out _).mono ?_; rintro e w1 ⟨rfl, g1⟩; have R1 := c0.below g1 c0.lt; have G1 := g0.trans g1; have gx : Gr w1 (w1.alloc (.cells #[.int .i64 x, .int .i64 4611686018427387904] 23)) := (Gr.refl w1).alloc _; have X1 := Blk.new w1 23 #[.int .i64 x, .int .i64 4611686018427387904]; have R2 := R1.below gx R1.lt; have hne : w.heap.size ≠ w1.heap.size := Nat.ne_of_lt R1.lt; have hne' : w1.heap.size ≠ w.heap.size := Ne.symm hne; have hltw : w.heap.size < w1.heap.size := R1.lt; have Gx := G1.trans gx; have X3 := X1) | (go_at_call 14; refine (rright_calls x (y) _).mono ?_; rintro e w5 ⟨rfl, g5⟩; have G5 := G3.trans g5; have X6 := X5.below g5 X5.lt; have R7 := R6.below g5 R6.lt; have cs0 := X6.at_ (i := 0) (v := .int .i64 x) rfl; have cs1 := X6.at_ (i := 1) (v := .int .i64 (y)) rfl; have ct0 := R7.at_ (i := 0) (v := .int .i64 0) rfl; have ct1 := R7.at_ (i := 1) (v := .int .i64 0) rfl; have fs0 := R7.frozen 0; have fs1 := R7.frozen 1) | (go_at_call 31; refine (rtext_calls x (y) _).mono ?_; rintro e w6 ⟨rfl, g6⟩; have G6 := G5.trans g6; have X7 := X6.below g6 X6.lt; have R8 := R7.below g6 R7.lt; have cu0 := X7.at_ (i := 0) (v := .int .i64 x) rfl; have cu1 := X7.at_ (i := 1) (v := .int .i64 (y)) rfl; have cv0 := R8.at_ (i := 0) (v := .int .i64 0) rfl; have cv1 := R8.at_ (i := 1) (v := .int .i64 0) rfl; have fv0 := R8.frozen 0; have fv1 := R8.frozen 1))
      all_goals refine bodyPost_ret (v := _) (by simp [results, Tryd.results33, go_sem, *] <;> rfl) rfl ⟨rfl, ?_⟩
      all_goals repeat (first | exact G6 | refine Gr.set_ ?_ (by simp) _)
set_option maxHeartbeats 1600000 in
theorem rparse_tn (l f : List UInt8) (x : Int) (t : List UInt8) (y : Int) (ht0 : t ≠ []) (hy : numL t = y) (hr : rightB x y = true) (he : textL x y ≠ l) (hl : l = f ++ 45 :: t) (hx : numL f = x) (hlen : l.length ≤ 1000) (hd : ∀ c ∈ f, c ≠ 45) (w : World) : Calls Tryd.prog 33 #[.string (bstr l)] w fun e w' => e = .returned (.tuple #[.agg #[.int .i64 0, .int .i64 0], .int .i64 2]) ∧ Gr w w' := by
  have hb := get_bAt l
  have hs : (bstr l).size = l.length := rfl
  have HD : Hid (∀ k, k < f.length → (bAt l k != 45) = true) := fun k h => by rw [hl]; exact bAt_left h hd
  have HM : (bAt l f.length != 45) = false := by rw [hl]; exact bAt_mid f _
  have HX : (bstr l).extract 0 f.length = bstr f := by rw [hl]; exact cut_l f _
  have hfl : f.length + 1 ≤ l.length := by rw [hl]; simp
  have hnf : Hid (∀ w : World, Calls Tryd.prog 42 #[.string (bstr f)] w fun e w' => e = .returned (.int .i64 x) ∧ Gr w w') := fun w => hx ▸ rnumber_calls f (by omega) w
  have htl : t.length ≤ 1000 := by rw [hl] at hlen; simp at hlen; omega
  have HY : (bstr l).extract (f.length + 1) l.length = bstr t := by rw [hl]; exact cut_r f t _ rfl
  have hnt : Hid (∀ w : World, Calls Tryd.prog 42 #[.string (bstr t)] w fun e w' => e = .returned (.int .i64 y) ∧ Gr w w') := fun w => hy ▸ rnumber_calls t htl w
  have hll : f.length + 1 < l.length := by rw [hl]; have := List.length_pos_iff.2 ht0; simp; omega
  clear ht0 hy
  have hee : ((bstr (textL x y)).toList == (bstr l).toList) = decide (textL x y = l) := by rw [bstr_list, bstr_list, Bool.eq_iff_iff]; simp
  rw [decide_eq_false he] at hee
  clear he
  clear hl hx hd
  have g0 : Gr w (w.alloc (.cells #[.int .i64 0, .int .i64 0] 23)) := (Gr.refl w).alloc _
  have c0 : Blk (w.alloc (.cells #[.int .i64 0, .int .i64 0] 23)) w.heap.size _ _ := Blk.new w 23 #[.int .i64 0, .int .i64 0]
  go_enter Tryd.func33, Tryd.ntmps33
  go_wp2
  go_loop [4] (fun i => ∃ (k : Nat), k ≤ f.length ∧ i = .int .i64 k) (fun i => f.length - (intOf i).toNat)
  case atStart => exact ⟨0, by omega, rfl⟩
  case round =>
    obtain ⟨k, hk, rfl⟩ := hrel
    by_cases hlt : k < f.length
    · have hx := HD.out k hlt
      have hk' : k < l.length := by omega
      have hdec : decide ((k : Int) < (l.length : Int)) = true := by simp; omega
      go_wp2
      go_round
      case rel => exact ⟨k + 1, by omega, by go_num⟩
      case measure => simp [intOf]; omega
    · obtain rfl : k = f.length := by omega
      have hk' : f.length < l.length := by omega
      have hdec : decide ((f.length : Int) < (l.length : Int)) = true := by simp; omega
      have hne0 : ((f.length : Int) == (l.length : Int)) = false := beq_eq_false_iff_ne.2 (by omega)
      go_wp2_with (first | (go_at_call 35; refine (end_same _).mono ?_; rintro e we ⟨rfl, rfl⟩) | (go_at_call 42; have _q := X3; refine (hnt.out _).mono ?_; rintro e w3 ⟨rfl, g3⟩; have X4 := X3.below g3 X3.lt; have R5 := R2.below g3 R2.lt; have G3 : Gr w (w3.setCell ⟨w1.heap.size, 1, none⟩ (.int .i64 y)) := (Gx.trans g3).set_ (Nat.le_of_lt hltw) _; have X5 : Blk (w3.setCell ⟨w1.heap.size, 1, none⟩ (.int .i64 y)) w1.heap.size 23 #[.int .i64 x, .int .i64 y] := X4.set_ 1 (.int .i64 y); have R6 := R5.far (p := ⟨w1.heap.size, 1, none⟩) hne (.int .i64 y); have cr0 := X4.at_ (i := 0) (v := .int .i64 x) rfl; have cr1 := X4.at_ (i := 1) (v := .int .i64 4611686018427387904) rfl; have fr1 := X4.frozen 1; have cq0 := X5.at_ (i := 0) (v := .int .i64 x) rfl; have cq1 := X5.at_ (i := 1) (v := .int .i64 y) rfl) | (go_at_call 42; refine (hnf.out _).mono ?_; rintro e w1 ⟨rfl, g1⟩; have R1 := c0.below g1 c0.lt; have G1 := g0.trans g1; have gx : Gr w1 (w1.alloc (.cells #[.int .i64 x, .int .i64 4611686018427387904] 23)) := (Gr.refl w1).alloc _; have X1 := Blk.new w1 23 #[.int .i64 x, .int .i64 4611686018427387904]; have R2 := R1.below gx R1.lt; have hne : w.heap.size ≠ w1.heap.size := Nat.ne_of_lt R1.lt; have hne' : w1.heap.size ≠ w.heap.size := Ne.symm hne; have hltw : w.heap.size < w1.heap.size := R1.lt; have Gx := G1.trans gx; have X3 := X1) | (go_at_call 14; refine (rright_calls x (y) _).mono ?_; rintro e w5 ⟨rfl, g5⟩; have G5 := G3.trans g5; have X6 := X5.below g5 X5.lt; have R7 := R6.below g5 R6.lt; have cs0 := X6.at_ (i := 0) (v := .int .i64 x) rfl; have cs1 := X6.at_ (i := 1) (v := .int .i64 (y)) rfl; have ct0 := R7.at_ (i := 0) (v := .int .i64 0) rfl; have ct1 := R7.at_ (i := 1) (v := .int .i64 0) rfl; have fs0 := R7.frozen 0; have fs1 := R7.frozen 1) | (go_at_call 31; refine (rtext_calls x (y) _).mono ?_; rintro e w6 ⟨rfl, g6⟩; have G6 := G5.trans g6; have X7 := X6.below g6 X6.lt; have R8 := R7.below g6 R7.lt; have cu0 := X7.at_ (i := 0) (v := .int .i64 x) rfl; have cu1 := X7.at_ (i := 1) (v := .int .i64 (y)) rfl; have cv0 := R8.at_ (i := 0) (v := .int .i64 0) rfl; have cv1 := R8.at_ (i := 1) (v := .int .i64 0) rfl; have fv0 := R8.frozen 0; have fv1 := R8.frozen 1))
      all_goals refine bodyPost_ret (v := _) (by simp [results, Tryd.results33, go_sem, *] <;> rfl) rfl ⟨rfl, ?_⟩
      all_goals repeat (first | exact G6 | refine Gr.set_ ?_ (by simp) _)
theorem dash_split : ∀ l : List UInt8, (∀ c ∈ l, c ≠ 45) ∨ ∃ f t, l = f ++ 45 :: t ∧ ∀ c ∈ f, c ≠ 45
  | [] => .inl (by simp)
  | c :: l => by
    by_cases h : c = 45
    · subst h
      exact .inr ⟨[], l, rfl, by simp⟩
    · rcases dash_split l with h1 | ⟨f, t, h1, h2⟩
      · exact .inl (by simpa using ⟨h, h1⟩)
      · exact .inr ⟨c :: f, t, by rw [h1]; rfl, by simpa using ⟨h, h2⟩⟩
theorem pspan_noDash {l : List UInt8} (h : ∀ c ∈ l, c ≠ 45) : pspan l = none := by
  unfold pspan
  rw [cut_no l h]
  rfl
theorem pspan_parts {f t : List UInt8} (hf : ∀ c ∈ f, c ≠ 45) {a b : Int} (h : pspan (f ++ 45 :: t) = some (a, b)) : numL f = a ∧ (if t = [] then 4611686018427387904 else numL t) = b := by
  obtain ⟨h1, h2⟩ := pspan_some h
  obtain ⟨r1, r2, r3⟩ : 0 ≤ a ∧ a ≤ b ∧ b ≤ 4611686018427387904 := of_decide_eq_true h2
  have ht := text_right a b h2
  have hc := cut_dash f t hf
  rw [← h1] at hc
  by_cases ho : b = 4611686018427387904 ∧ a ≠ 4611686018427387904
  · rw [if_pos ho] at ht
    have hc' : Lib.cut (textL a b) [45] = (Lib.itoa a, [], true) := by rw [ht]; exact cut_dash _ [] (itoa_dash a r1)
    rw [hc] at hc'
    injection hc' with e1 e2
    injection e2 with e2 _
    subst e1 e2
    exact ⟨num_itoa a r1 (by omega), by rw [if_pos rfl, ho.1]⟩
  · rw [if_neg ho] at ht
    have hc' : Lib.cut (textL a b) [45] = (Lib.itoa a, Lib.itoa b, true) := by rw [ht]; exact cut_dash _ _ (itoa_dash a r1)
    rw [hc] at hc'
    injection hc' with e1 e2
    injection e2 with e2 _
    subst e1 e2
    exact ⟨num_itoa a r1 (by omega), by rw [if_neg (itoa_ne b), num_itoa b (by omega) r3]⟩
theorem rparse_calls (l : List UInt8) (hl : l.length ≤ 1000) (w : World) : Calls Tryd.prog 33 #[.string (bstr l)] w (RetPar l w) := by
  rcases dash_split l with hd | ⟨f, t, he, hd⟩
  · refine (rparse_no l hl hd w).mono ?_
    rintro e w' ⟨rfl, g⟩
    exact retPar_no (pspan_noDash hd) g
  · have no : ∀ y, (if t = [] then 4611686018427387904 else numL t) = y → ¬ (rightB (numL f) y = true ∧ textL (numL f) y = l) → pspan l = none := by
      intro y hy hn
      cases hp : pspan l with
      | none => rfl
      | some q =>
        obtain ⟨a, b⟩ := q
        have hp' := hp
        rw [he] at hp'
        obtain ⟨e1, e2⟩ := pspan_parts hd hp'
        obtain ⟨e3, e4⟩ := pspan_some hp
        rw [hy] at e2
        subst e1 e2
        exact absurd ⟨e4, e3⟩ hn
    by_cases ht : t = []
    · subst ht
      cases hr : rightB (numL f) 4611686018427387904 with
      | false =>
        refine (rparse_ow l f _ hr he rfl hl hd w).mono ?_
        rintro e w' ⟨rfl, g⟩
        exact retPar_no (no _ (if_pos rfl) (fun h => by rw [hr] at h; cases h.1)) g
      | true =>
        by_cases hx : textL (numL f) 4611686018427387904 = l
        · refine (rparse_oy l f _ hr hx he rfl hl hd w).mono ?_
          rintro e w' ⟨rfl, g⟩
          exact retPar_yes (hx ▸ text_back _ _ hr) g
        · refine (rparse_on l f _ hr hx he rfl hl hd w).mono ?_
          rintro e w' ⟨rfl, g⟩
          exact retPar_no (no _ (if_pos rfl) (fun h => hx h.2)) g
    · cases hr : rightB (numL f) (numL t) with
      | false =>
        refine (rparse_tw l f _ t _ ht rfl hr he rfl hl hd w).mono ?_
        rintro e w' ⟨rfl, g⟩
        exact retPar_no (no _ (if_neg ht) (fun h => by rw [hr] at h; cases h.1)) g
      | true =>
        by_cases hx : textL (numL f) (numL t) = l
        · refine (rparse_ty l f _ t _ ht rfl hr hx he rfl hl hd w).mono ?_
          rintro e w' ⟨rfl, g⟩
          exact retPar_yes (hx ▸ text_back _ _ hr) g
        · refine (rparse_tn l f _ t _ ht rfl hr hx he rfl hl hd w).mono ?_
          rintro e w' ⟨rfl, g⟩
          exact retPar_no (no _ (if_neg ht) (fun h => hx h.2)) g
end Go.Proofs.YtpcedmiehoimbaaDoor
