/-
  The walks of the document's Per and Need.
-/
import Derived.Test.YtpojlchikaffhaaDoorJPage
import Derived.Test.YtpojlchikaffhaaDoorJourLog
import Derived.BigQuiet
import Derived.Deep.QuietTactic
import Derived.Test.YtpojlchikaffhaaDoorJMem
namespace Go.Proofs.YtpojlchikaffhaaDoor
open Go.RowKit DiskP SumP PageP


/-- How many bytes of a record stand in a sector. -/
def per (size : Int) : Int := if size < 19 ∨ 4096 < size then 0 else size - 18
theorem rper_calls (size : Int) (w : World) : Calls Tryd.prog 53 #[.int .i64 size] w fun e w' => e = .returned (.int .i64 (per size)) ∧ w = w' := by
  by_cases h1 : size < 19
  · have HE : Hid (per size = 0) := if_pos (.inl h1)
    have d1 : decide (size < 19) = true := by simpa using h1
    go_enter Tryd.func53, Tryd.ntmps53
    go_wp2
    go_ret
    exact ⟨by rw [HE.out]; rfl, rfl⟩
  have d1 : decide (size < 19) = false := by simpa using h1
  by_cases h2 : 4096 < size
  · have HE : Hid (per size = 0) := if_pos (.inr h2)
    have d2 : decide (4096 < size) = true := by simpa using h2
    go_enter Tryd.func53, Tryd.ntmps53
    go_wp2
    go_ret
    exact ⟨by rw [HE.out]; rfl, rfl⟩
  have d2 : decide (4096 < size) = false := by simpa using h2
  have HE : Hid (per size = size - 18) := if_neg (by omega)
  go_enter Tryd.func53, Tryd.ntmps53
  go_wp2
  go_ret
  exact ⟨by rw [HE.out]; rfl, rfl⟩
theorem per_bnd (size : Int) : 0 ≤ per size ∧ per size ≤ 4078 := by
  unfold per
  split <;> omega
/-- The least number of sectors. -/
theorem need_least (size bytes : Int) (p n : Nat) (hp : per size = (p : Int)) (hp1 : 1 ≤ p) (h0 : 0 ≤ bytes) (h1 : bytes ≤ 1073741824) (hn : 1 ≤ n) (hlo : n = 1 ∨ ((n - 1 : Nat) : Int) * (p : Int) < bytes) (hhi : bytes ≤ (n : Int) * (p : Int)) : need size bytes = (n : Int) := by
  have hs : ¬ (size < 19 ∨ 4096 < size) := fun h => by unfold per at hp; rw [if_pos h] at hp; omega
  have hp' : size - 18 = (p : Int) := by unfold per at hp; rw [if_neg hs] at hp; exact hp
  obtain ⟨b, rfl⟩ := Int.eq_ofNat_of_zero_le h0
  unfold need
  rw [if_neg (by omega), hp']
  have e : ((b : Int) + (p : Int) - 1) / (p : Int) = (((b + p - 1) / p : Nat) : Int) := by rw [Int.natCast_ediv]; congr 1; omega
  rw [e]
  have hd := Nat.div_add_mod (b + p - 1) p
  have hm := Nat.mod_lt (b + p - 1) (show 0 < p by omega)
  have hhi' : b ≤ n * p := by exact_mod_cast hhi
  rcases hlo with rfl | hlo
  · have : (b + p - 1) / p ≤ 1 := by
      rw [Nat.one_mul] at hhi'
      have : (b + p - 1) / p < 2 := (Nat.div_lt_iff_lt_mul (by omega)).2 (by omega)
      omega
    split <;> omega
  · have hlo' : (n - 1) * p < b := by exact_mod_cast hlo
    have : (b + p - 1) / p = n := by
      have h2 : n * p ≤ b + p - 1 := by
        have : n * p = (n - 1) * p + p := by
          obtain ⟨m, rfl⟩ : ∃ m, n = m + 1 := ⟨n - 1, by omega⟩
          rw [Nat.add_sub_cancel, Nat.add_mul, Nat.one_mul]
        omega
      have h3 : b + p - 1 < (n + 1) * p := by rw [Nat.add_mul, Nat.one_mul]; omega
      exact Nat.le_antisymm (Nat.le_of_lt_succ ((Nat.div_lt_iff_lt_mul (by omega)).2 h3)) ((Nat.le_div_iff_mul_le (by omega)).2 h2)
    rw [this]
    split <;> omega
theorem rneed_calls (size bytes : Int) (w : World) : Calls Tryd.prog 46 #[.int .i64 size, .int .i64 bytes] w fun e w' => e = .returned (.int .i64 (need size bytes)) ∧ w = w' := by
  have PC := rper_calls size w
  by_cases hs : size < 19 ∨ 4096 < size
  · have hp : per size = 0 := if_pos hs
    have HE : Hid (need size bytes = 0) := if_pos (by omega)
    rw [hp] at PC
    clear hp hs
    go_enter Tryd.func46, Tryd.ntmps46
    go_wp2_with fail
    refine PC.mono ?_
    rintro e w1 ⟨rfl, rfl⟩
    clear PC
    go_wp2
    go_ret
    exact ⟨by rw [HE.out]; rfl, rfl⟩
  obtain ⟨p, hp, hp1, hp2⟩ : ∃ p : Nat, per size = (p : Int) ∧ 1 ≤ p ∧ p ≤ 4078 := ⟨(size - 18).toNat, by unfold per; rw [if_neg hs]; omega, by omega, by omega⟩
  rw [hp] at PC
  have dp : ((p : Int) == 0) = false := by simp; omega
  by_cases h3 : bytes < 0
  · have HE : Hid (need size bytes = 0) := if_pos (.inr (.inr (.inl h3)))
    have d3 : decide (bytes < 0) = true := by simpa using h3
    clear hp
    go_enter Tryd.func46, Tryd.ntmps46
    go_wp2_with fail
    refine PC.mono ?_
    rintro e w1 ⟨rfl, rfl⟩
    clear PC
    go_wp2
    go_ret
    exact ⟨by rw [HE.out]; rfl, rfl⟩
  have d3 : decide (bytes < 0) = false := by simpa using h3
  by_cases h4 : 1073741824 < bytes
  · have HE : Hid (need size bytes = 0) := if_pos (.inr (.inr (.inr h4)))
    have d4 : decide (1073741824 < bytes) = true := by simpa using h4
    clear hp
    go_enter Tryd.func46, Tryd.ntmps46
    go_wp2_with fail
    refine PC.mono ?_
    rintro e w1 ⟨rfl, rfl⟩
    clear PC
    go_wp2
    go_ret
    exact ⟨by rw [HE.out]; rfl, rfl⟩
  have d4 : decide (1073741824 < bytes) = false := by simpa using h4
  have HN := Lib.hid (fun n => need_least size bytes p n hp hp1 (by omega) (by omega))
  clear hp hs
  go_enter Tryd.func46, Tryd.ntmps46
  go_wp2_with fail
  refine PC.mono ?_
  rintro e w1 ⟨rfl, rfl⟩
  clear PC
  go_wp2
  go_loop [6] (fun i => ∃ n : Nat, 1 ≤ n ∧ i = .int .i64 (n : Int) ∧ (n = 1 ∨ ((n - 1 : Nat) : Int) * (p : Int) < bytes) ∧ ((n : Int) - 1) * (p : Int) ≤ bytes) (fun i => 1073741826 - (intOf i).toNat)
  case atStart => exact ⟨1, Nat.le_refl _, rfl, .inl rfl, by simp; omega⟩
  case round =>
    obtain ⟨n, hn1, rfl, hlo, hle⟩ := hrel
    have hnp : ((n : Int) - 1) * 1 ≤ ((n : Int) - 1) * (p : Int) := Int.mul_le_mul_of_nonneg_left (by omega) (by omega)
    rw [Int.mul_one] at hnp
    have hmul : (n : Int) * (p : Int) = ((n : Int) - 1) * (p : Int) + (p : Int) := by rw [Int.sub_mul, Int.one_mul]; omega
    have hb : (n : Int) * (p : Int) ≤ 1073745902 := by omega
    have hb0 : 0 ≤ (n : Int) * (p : Int) := Int.mul_nonneg (by omega) (by omega)
    have hn2 : n ≤ 1073741825 := by omega
    have HL := Lib.hid hlo
    have HM := Lib.hid hmul
    have HLE := Lib.hid hle
    clear hlo hmul hnp hle
    by_cases hlt : (n : Int) * (p : Int) < bytes
    · have d5 : decide ((n : Int) * (p : Int) < bytes) = true := by simpa using hlt
      have HT := Lib.hid hlt
      have hn3 : n ≤ 1073741824 := by
        have h1 : (n : Int) * 1 ≤ (n : Int) * (p : Int) := Int.mul_le_mul_of_nonneg_left (by omega) (by omega)
        rw [Int.mul_one] at h1
        omega
      clear hlt
      go_wp2
      go_round
      case rel => exact ⟨n + 1, by omega, by go_num, .inr (by rw [Nat.add_sub_cancel]; exact HT.out), by rw [show ((n + 1 : Nat) : Int) - 1 = (n : Int) by omega]; exact Int.le_of_lt HT.out⟩
      case measure => simp [intOf]; omega
    · have d5 : decide ((n : Int) * (p : Int) < bytes) = false := by simpa using hlt
      have HE : Hid (need size bytes = (n : Int)) := HN.out n hn1 HL.out (by omega)
      clear hlt
      go_wp2
      go_ret
      exact ⟨by rw [HE.out]; rfl, rfl⟩
end Go.Proofs.YtpojlchikaffhaaDoor
namespace Go.Proofs.YtpojlchikaffhaaDoor
open Go.RowKit DiskP PageP JourP

theorem info_rec : (Tryd.prog.info? 40).map (fun i => (i.zero, i.size, i.bytes)) = some (some (.agg #[.int .u8 0, .slice none 0 0]), 2, 32) := by kernel_rfl
theorem el_rec : El Tryd.prog 41 40 (.agg #[.int .u8 0, .slice none 0 0]) 2 32 := ⟨info_parts info_rec, Tryd.underlying41, rfl, by decide⟩
theorem rec_elem {w : World} {A : Option Addr} {rs : List RecR} (h : RV w A (rC rs)) {k : Nat} {x : RecR} (hk : rs[k]? = some x) : ∃ b off, A = some ⟨b, off, none⟩ ∧ b < w.heap.size ∧ w.cell? ⟨b, off + k * 2, none⟩ = some (.int .u8 (x.kind.toNat : Int)) ∧ w.cell? ⟨b, off + k * 2 + 1, none⟩ = some (.slice x.A x.body.length x.cap) := by
  have e0 := rC_get rs k 0 (by omega)
  have e1 := rC_get rs k 1 (by omega)
  rw [hk] at e0 e1
  obtain ⟨b, off, e, hb, hc⟩ := h (by intro e; rw [e] at e0; simp [RecR.cells] at e0)
  exact ⟨b, off, e, hb, hc _ _ e0, by rw [Nat.add_assoc]; exact hc _ _ e1⟩
/-- It gives bytes back in a row of their own. -/
def RetOwn (w : World) (l : List UInt8) (e : Ending) (w' : World) : Prop := ∃ A c, e = .returned (.slice A l.length c) ∧ w'.ownsRow w.heap.size 5 1 (.slice A l.length c) l.length (cB l) ∧ Below w.heap.size w w'
theorem jbegin_calls (j : JL) (u f h : Nat) (w : World) (base : Nat) (hJ : JOK w base j) (hu : u ≤ 1) (hf : j.from_ = (f : Int)) (hh : j.half = (h : Int)) (b1 : f ≤ 65536) (b2 : h ≤ 65536) :
    Calls Tryd.prog 42 #[.pointer (some ⟨j.G, 0, none⟩), .int .i64 (u : Int)] w fun e w' => e = .returned (.int .i64 ((f + u * h : Nat) : Int)) ∧ ∃ q, w' = w.drewN q := by
  have c1 := hJ.c1
  have c2 := hJ.c2
  rw [hf] at c1
  rw [hh] at c2
  have hm : ((u : Int) * (h : Int)) = ((u * h : Nat) : Int) := by simp
  have hle : u * h ≤ 65536 := by
    rcases (show u = 0 ∨ u = 1 by omega) with rfl | rfl <;> omega
  have s1 : IntKind.i64.wrap ((u : Int) * (h : Int)) = ((u * h : Nat) : Int) := by rw [hm, IntKind.wrap_i64]; omega
  have s2 : IntKind.i64.wrap ((f : Int) + ((u * h : Nat) : Int)) = ((f + u * h : Nat) : Int) := by rw [IntKind.wrap_i64]; omega
  clear hJ hf hh hm
  go_enter Tryd.func42, Tryd.ntmps42
  go_wp2_with fail
  go_quiet (fail)
  go_wp2
  go_ret
  exact ⟨rfl, _, rfl⟩
theorem jneed_calls (j : JL) (k : UInt8) (A : Option Addr) (n cap : Nat) (w : World) (base : Nat) (hJ : JOK w base j) (hn : n ≤ 1000000000) :
    Calls Tryd.prog 33 #[.pointer (some ⟨j.G, 0, none⟩), .agg #[.int .u8 (k.toNat : Int), .slice A n cap]] w fun e w' => e = .returned (.int .i64 (need j.size (1 + (n : Int)))) ∧ Below w.heap.size w w' := by
  have B1 : ∀ o, Below w.heap.size w (w.alloc o) := fun o => (Below.refl _ _).alloc (Nat.le_refl _) o
  have c3 := fun o => (hJ.below (B1 o)).c3
  have PN : ∀ w : World, Calls Tryd.prog 44 #[.int .i64 j.size, .int .i64 (1 + (n : Int))] w fun e w' => e = .returned (.int .i64 (need j.size (1 + (n : Int)))) ∧ w' = w := fun w => (pneed_calls j.size (1 + (n : Int)) w).mono fun _ _ ⟨a, b⟩ => ⟨a, b.symm⟩
  have s1 : IntKind.i64.wrap (1 + (n : Int)) = 1 + (n : Int) := by rw [IntKind.wrap_i64]; omega
  have B2 : ∀ o q, Below w.heap.size w ((w.alloc o).drewN q) := fun o q => ⟨rfl, rfl, rfl, (B1 o).size, (B1 o).block⟩
  clear hJ
  go_enter Tryd.func33, Tryd.ntmps33
  go_wp2_with fail
  go_quiet ((go_at_call 44; (with_reducible refine Calls.quiet_of_same (PN _))))
  clear PN
  go_wp2
  go_ret
  exact ⟨rfl, B2 _ _⟩
theorem own_cells (w : World) {base : Nat} (e : TypeId) (vs : List Value) (n g : Nat) (hg : w.heap.size = g) (hn : vs.length = n) (hb : base ≤ w.heap.size) (hm : n ≤ maxLen) : (w.alloc (.cells vs.toArray e)).ownsRow base e 1 (.slice (some ⟨g, 0, none⟩) n n) n vs := by
  subst hg hn
  exact ⟨by simp, .inr ⟨w.heap.size, vs.length, vs.toArray, rfl, hb, heap_alloc_new w _, Nat.le_refl _, hm, by simp, by simp⟩⟩
theorem jbytes_calls (r : RecR) (w : World) (hR : RB w r.A r.body) (hl : r.body.length ≤ 1000000) :
    Calls Tryd.prog 35 #[.agg #[.int .u8 (r.kind.toNat : Int), .slice r.A r.body.length r.cap]] w (RetOwn w r.abs.bytes) := by
  have B1 : ∀ o, Below w.heap.size w (w.alloc o) := fun o => (Below.refl _ _).alloc (Nat.le_refl _) o
  have B2 : ∀ o p, Below w.heap.size w ((w.alloc o).alloc p) := fun o p => (B1 o).alloc (B1 o).size p
  have hlen : r.abs.bytes.length = 1 + r.body.length := r.abs.bytes_len
  have HL := Lib.hid hlen
  clear hlen
  go_enter Tryd.func35, Tryd.ntmps35
  go_wp2_with ((with_reducible show wpList _ _ _ (⟨some 8, _, _, _, _, _⟩ :: _) _ _); refine wpList_append_rv el_u8 rfl (.tmp 5) (.tmp 7) rfl w.heap.size (.slice (some ⟨w.heap.size + 1, 0, none⟩) 1 1) 1 (cB [r.kind]) rfl ?e0 r.A r.body.length r.cap (cB r.body) rfl ?e1 (hR.below (B2 _ _)) (cB_one _) ?e2 ?e3 ?e4 ?_)
  case e0 =>
    exact own_cells (w.alloc (.cells #[.int .u8 (r.kind.toNat : Int), .slice r.A r.body.length r.cap] 40)) 5 [.int .u8 (r.kind.toNat : Int)] 1 (w.heap.size + 1) (by simp) rfl (by simp) (by unfold maxLen; omega)
  case e1 => rw [cB_len, Nat.mul_one]
  case e2 => unfold maxLen; omega
  case e3 => omega
  case e4 => simp; omega
  intro v3 w3 own3 gr3 _
  have own4 : w3.ownsRow w.heap.size 5 1 v3 r.abs.bytes.length (cB r.abs.bytes) := by
    have e : cB r.abs.bytes = cB [r.kind] ++ cB r.body := by rw [← cB_append]; rfl
    rw [HL.out, e]
    exact own3
  obtain ⟨A3, c3, rfl, _, _⟩ := own_form own4
  have B3 : Below w.heap.size w w3 := (B2 _ _).grown gr3 (by simp; omega) (fun j hj => by have hj : w.heap.size + 1 = j := Option.some.inj hj; omega)
  have HF : Hid (RetOwn w r.abs.bytes (.returned (.slice A3 r.abs.bytes.length c3)) w3) := ⟨A3, c3, rfl, own4, B3⟩
  clear own3 own4 gr3 B3
  go_wp2
  go_ret
  exact HF.out
end Go.Proofs.YtpojlchikaffhaaDoor
namespace Go.Proofs.YtpojlchikaffhaaDoor
open Go.RowKit DiskP PageP JourP

/-- It gives records back in a row of their own. -/
def RetRows (w : World) (l : List RecR) (e : Ending) (w' : World) : Prop := ∃ v rs, e = .returned v ∧ rs.length = l.length ∧ rs.map RecR.abs = l.map RecR.abs ∧ RowR w' w.heap.size (fun k => k < w.heap.size) v rs ∧ Below w.heap.size w w'
def CopiedR (w : World) (ls : List RecR) (k : Nat) (v : Value) (wr : World) : Prop :=
  ∃ rs, rs.length = k ∧ rs.map RecR.abs = (ls.take k).map RecR.abs ∧ RowR wr w.heap.size (fun k => k < w.heap.size) v rs ∧ Below w.heap.size w wr
theorem copiedR_step {ls rs : List RecR} {k : Nat} {x : RecR} {A : Option Addr} {c : Nat} (hx : ls[k]? = some x) (h : rs.map RecR.abs = (ls.take k).map RecR.abs) : (rs ++ [(⟨x.kind, A, c, x.body⟩ : RecR)]).map RecR.abs = (ls.take (k + 1)).map RecR.abs := by
  obtain ⟨hlt, rfl⟩ := List.getElem?_eq_some_iff.1 hx
  rw [List.take_succ_eq_append_getElem hlt, List.map_append, List.map_append, h]
  rfl
set_option maxHeartbeats 3200000 in
theorem jcopied_calls (ls : List RecR) (A : Option Addr) (cap : Nat) (w : World) (hR : RV w A (rC ls)) (hx : ∀ x ∈ ls, RecOK w (fun _ => False) x) (hs : ∀ x ∈ ls, x.body.length ≤ 1000000) (hl : ls.length ≤ 1000000) :
    Calls Tryd.prog 36 #[.slice A ls.length cap] w (RetRows w ls) := by
  go_enter Tryd.func36, Tryd.ntmps36
  go_wp2
  go_loopw [3, 8] (fun v i wr => ∃ k : Nat, k ≤ ls.length ∧ i = .int .i64 (k : Int) ∧ CopiedR w ls k v wr) (fun _ i _ => ls.length - (intOf i).toNat)
  case atStart => exact ⟨0, by omega, rfl, [], rfl, rfl, RowR.nil _ _ _, Below.refl _ _⟩
  case round =>
    obtain ⟨k, hk, rfl, rs, rfl, hra, hrow, bel⟩ := hrel
    obtain ⟨AR, cR, rfl, _, _⟩ := own_form hrow.own
    by_cases hlt : rs.length < ls.length
    · have dec : decide ((rs.length : Int) < (ls.length : Int)) = true := decide_eq_true (by omega)
      have dec' : decide (rs.length < ls.length) = true := decide_eq_true hlt
      obtain ⟨x, hxk⟩ : ∃ x, ls[rs.length]? = some x := ⟨_, List.getElem?_eq_getElem hlt⟩
      have hxm : x ∈ ls := List.mem_of_getElem? hxk
      obtain ⟨g, off, rfl, hg, x0, x1⟩ := rec_elem (hR.below bel) hxk
      have xrd := ((hx x hxm).rd.rv).below bel
      have xs := hs x hxm
      have HCS := Lib.hid (fun A c => copiedR_step (A := A) (c := c) hxk hra)
      clear hxk hxm hra hx hs
      obtain ⟨xk, xA, xc, xb⟩ := x
      simp only at x0 x1 xrd xs
      go_wp2_with fail
      have bb := Blk.new wr 40 #[.int .u8 (xk.toNat : Int), .slice xA xb.length xc]
      have b1 : Below wr.heap.size wr (wr.alloc (.cells #[.int .u8 (xk.toNat : Int), .slice xA xb.length xc] 40)) := (Below.refl _ _).alloc (Nat.le_refl _) _
      have hz1 : wr.heap.size < (wr.alloc (.cells #[.int .u8 (xk.toNat : Int), .slice xA xb.length xc] 40)).heap.size := by simp
      have xr1 := xrd.below b1
      have bel1 := bel.trans (b1.mono bel.size)
      generalize wr.alloc (.cells #[.int .u8 (xk.toNat : Int), .slice xA xb.length xc] 40) = w1 at *
      clear x0 x1 xrd
      have row1 := hrow.below b1
      have hbs := bel.size
      have x0 : w1.cell? ⟨wr.heap.size, 0, none⟩ = some (.int .u8 (xk.toNat : Int)) := bb.at_ rfl
      have x1 : w1.cell? ⟨wr.heap.size, 1, none⟩ = some (.slice xA xb.length xc) := bb.at_ rfl
      have HP : Hid (∀ (w3 w4 : World) (A3 : Option Addr) (c3 : Nat) (v : Value), Below w1.heap.size w1 w3 → w3.ownsRow w1.heap.size 5 1 (.slice A3 xb.length c3) xb.length (cB xb) → w4.ownsRow w.heap.size 40 2 v (rs.length + 1) (rC rs ++ [.int .u8 (xk.toNat : Int), .slice A3 xb.length c3]) →
          w3.grownBy w4 (Value.slice AR rs.length cR).ownBlock → (v.ownBlock = (Value.slice AR rs.length cR).ownBlock ∨ v.ownBlock = some w3.heap.size) → CopiedR w ls (rs.length + 1) v w4) := by
        intro w3 w4 A3 c3 v b3 o3 o4 g4 hv
        refine ⟨rs ++ [⟨xk, A3, c3, xb⟩], by simp, HCS.out A3 c3, RowR.pushV (x := ⟨xk, A3, c3, xb⟩) row1 b3 (RecOK.made (x := ⟨xk, A3, c3, xb⟩) row1.own (fun k hk => by have := bel1.size; omega) (Nat.le_refl _) o3) o4 g4 hv, (bel1.trans (b3.mono bel1.size)).grown g4 ?_ ?_⟩
        · have := bel1.size; have := b3.size; omega
        · intro j hj; exact (row1.own.lt j hj).1
      have KB : Hid (∀ (w4 : World), Below w1.heap.size w1 w4 → Blk w4 wr.heap.size 40 #[.int .u8 (xk.toNat : Int), .slice xA xb.length xc] ∧ w4.ownsRow w.heap.size 40 2 (.slice AR rs.length cR) rs.length (rC rs)) := fun w4 b4 => ⟨bb.below b4 hz1, (row1.below b4).own⟩
      clear hR hrow bb row1 bel hbs
      go_region_law (first
        | (refine step_append_rv (A := xA) (m := xb.length) (c := xc) (v := .slice none 0 0) (n := 0) (base := w1.heap.size) (xs := []) el_u8 rfl (.const (.slice none 0 0)) (.tmp 16) rfl rfl (World.ownsRow_nil _ _ _ _) rfl (by rw [cB_len, Nat.mul_one]) xr1.drew (cB_one _) (by unfold maxLen; omega) (by omega) (Nat.le_refl _) ?_; intro v4 w4 own4 gr4 hv4; (have own5 : w4.ownsRow w1.heap.size 5 1 v4 xb.length (cB xb) := by simpa using own4); (obtain ⟨A4, c4, hv4f, _, _⟩ := own_form own5); subst hv4f; have b4 : Below w1.heap.size w1 w4 := Below.grown ((Below.refl _ w1).drew) gr4 (Nat.le_refl _) (fun j hj => by cases hj); have q0 : w4.cell? ⟨wr.heap.size, 0, none⟩ = some (.int .u8 (xk.toNat : Int)) := (KB.out w4 b4).1.at_ rfl; have q1 : w4.cell? ⟨wr.heap.size, 1, none⟩ = some (.slice xA xb.length xc) := (KB.out w4 b4).1.at_ rfl; clear own4 gr4 hv4)
        | (refine step_append_rv (A := some ⟨w4.heap.size, 0, none⟩) (m := 1) (c := 1) (v := .slice AR rs.length cR) (n := rs.length) (base := w.heap.size) (xs := rC rs) el_rec rfl (.tmp 12) (.tmp 19) rfl rfl ((KB.out w4 b4).2.alloc _) rfl rfl (RV.new w4 [.int .u8 (xk.toNat : Int), .slice A4 xb.length c4] 40 (0, 0)) (rC_one [⟨xk, A4, c4, xb⟩]) (by unfold maxLen; omega) (by omega) (by have := bel1.size; have := b4.size; simp; omega) ?_; intro v5 w5 own6 gr5 hv5; (obtain ⟨A5, c5, hv5f, _, _⟩ := own_form own6); subst hv5f; have HC := Lib.hid (HP.out _ w5 A4 c4 _ (b4.alloc b4.size _) (own5.alloc _) own6 gr5 (by simpa using hv5)); clear own6 gr5 hv5 own5 b4 q0 q1))
      all_goals
        clear HP KB HCS
        go_wp2
        go_roundw
        case rel => exact ⟨rs.length + 1, by omega, by go_num, HC.out⟩
        case measure => simp [intOf]; omega
    · have hE : rs.length = ls.length := by omega
      have dec : decide ((rs.length : Int) < (ls.length : Int)) = false := decide_eq_false (by omega)
      have dec' : decide (rs.length < ls.length) = false := decide_eq_false hlt
      have HC : Hid (RetRows w ls (.returned (.slice AR rs.length cR)) wr) := ⟨_, rs, rfl, hE, by rw [hra, hE, List.take_length], hrow, bel⟩
      clear hrow hra hE
      go_wp2
      go_ret
      exact HC.out
end Go.Proofs.YtpojlchikaffhaaDoor
namespace Go.Proofs.YtpojlchikaffhaaDoor
open Go.RowKit DiskP PageP JourP

/-- A row of the call's own reads as its cells, apart from what was there. -/
theorem own_rvfN {w : World} {N n c s : Nat} {e : TypeId} {F : Nat → Prop} {A : Option Addr} {xs : List Value} (h : w.ownsRow N e s (.slice A n c) n xs) (hF : ∀ k, F k → k < N ∨ w.heap.size ≤ k) : RVF w F A xs := fun hne => by
  have hl := h.1
  rcases h.2 with ⟨_, h0⟩ | ⟨g, cap, cur, e1, h1, h2, _⟩
  · exfalso
    subst h0
    rw [Nat.zero_mul] at hl
    exact hne (List.length_eq_zero_iff.1 hl)
  · injection e1 with e1 _ e3
    subst e1 e3
    have hlt := lt_of_block h2
    refine ⟨g, 0, rfl, hlt, fun hf => by rcases hF g hf with h3 | h3 <;> omega, fun j v hj => ?_⟩
    rw [Nat.zero_add, h.cellAt _ (by rw [← hl]; exact (List.getElem?_eq_some_iff.1 hj).1)]
    exact hj
section
variable {w w' : World} {base : Nat} {j : JL} {p : PJ}
theorem JLog.small (h : JLog w base j p) : ∀ x ∈ j.rs, x.body.length ≤ 4000 := fun x hx => by
  have := h.inv.base.small x.abs (by rw [← h.frs]; exact List.mem_map_of_mem hx)
  exact this
theorem JLog.rows (h : JLog w base j p) : ∃ A c, j.v = .slice A j.rs.length c ∧ RV w A (rC j.rs) ∧ (∀ x ∈ j.rs, RecOK w (fun _ => False) x) ∧ j.rs.length ≤ 65536 := by
  obtain ⟨A, c, hv, _, _⟩ := own_form h.ok.kp.row.own
  refine ⟨A, c, hv, ?_, fun x hx => (h.ok.kp.row.ks x hx).mono fun _ _ hk => hk.elim, ?_⟩
  · have := h.ok.kp.row.own
    rw [hv] at this
    exact (own_rvfN (F := fun _ => False) this (fun _ hk => hk.elim)).rv
  · have := h.len
    obtain ⟨_, _, h3, h4, _, _, h7, _⟩ := h.sizes
    omega
/-- Behind a call on its disk. -/
theorem JLog.disk {S : Dsk} {lasts : Nat} (h : JLog w base j p) (n : Next w base j.y S w') (hi : Inv S p.b p.o p.half p.e p.rs lasts) (hs : S.size = j.y.size) (hll : S.last.length = j.y.abs.last.length) : NextJ w base j { p with lasts := lasts } w' := by
  obtain ⟨y', h1, h2, h3, h4, h5⟩ := h.ok.disk n
  have hz : y'.size = j.y.size := by have : y'.abs.size = y'.size := rfl; rw [← this, h1, hs]
  refine ⟨{ j with y := y' }, ⟨h3, by rw [← h1] at hi; exact hi, h.u, h.ffrom, h.fhalf, by rw [h.fsize]; exact congrArg (fun n : Nat => (n : Int)) hz.symm, h.fuse, h.fe, by rw [h.fat]; show _ = ((p.b + pos y'.size p.rs p.rs.length : Nat) : Int); rw [hz], h.frs⟩, rfl, h2, ⟨hz, Lay.last_len h1 hll⟩, h4.mono fun k _ hk => .inr (.inr hk), fun k hk => ?_, fun X _ hX z hz => RecOK.stay h.ok hz (hX z hz) (h4.mono fun k _ hk => .inr (.inr hk))⟩
  rcases hk with hk | hk | hk
  · exact .inl (.inl hk)
  · exact .inl (.inr (.inl hk))
  · exact (h5 k hk).imp (fun hf => .inr (.inr hf)) id
end
theorem jall_calls (j : JL) (p : PJ) (w : World) (base : Nat) (h : JLog w base j p) :
    Calls Tryd.prog 14 #[.pointer (some ⟨j.G, 0, none⟩)] w (RetRows w j.rs) := by
  obtain ⟨A, c, hv, hrv, hks, hn⟩ := h.rows
  have c7 := h.ok.c7
  rw [hv] at c7
  have CC := jcopied_calls j.rs A c w hrv hks (fun x hx => by have := h.small x hx; omega) (by omega)
  clear h hv hrv hks
  go_enter Tryd.func14, Tryd.ntmps14
  go_wp2_with fail
  refine CC.mono ?_
  clear CC
  rintro e w1 ⟨v, rs, rfl, h1, h2, h3, h4⟩
  have HF : Hid (RetRows w j.rs (.returned v) w1) := ⟨v, rs, rfl, h1, h2, h3, h4⟩
  clear h1 h2 h3 h4
  go_wp2
  go_ret
  exact HF.out
theorem jepoch_calls (j : JL) (w : World) (base : Nat) (h : JOK w base j) :
    Calls Tryd.prog 22 #[.pointer (some ⟨j.G, 0, none⟩)] w fun e w' => e = .returned (.int .i64 j.epoch) ∧ w = w' := by
  have c5 := h.c5
  clear h
  go_enter Tryd.func22, Tryd.ntmps22
  go_wp2
  go_ret
  exact ⟨rfl, rfl⟩
theorem jleft_calls (j : JL) (p : PJ) (w : World) (base : Nat) (h : JLog w base j p) :
    Calls Tryd.prog 20 #[.pointer (some ⟨j.G, 0, none⟩)] w fun e w' => e = .returned (.int .i64 (leftN j.y.size p)) ∧ ∃ q, w' = w.drewN q := by
  obtain ⟨z1, z2, z3, z4, z5, z6, z7, z8⟩ := h.sizes
  have hu := h.u
  have hbd : p.b = p.from_ + p.use * p.half := rfl
  have hpa := pos_all j.y.size p.rs
  have c2 := h.ok.c2
  have c4 := h.ok.c4
  have c6 := h.ok.c6
  rw [h.fhalf] at c2
  rw [h.fuse] at c4
  rw [h.fat, hpa] at c6
  have BC := fun q => jbegin_calls j p.use p.from_ p.half (w.drewN q) base (h.ok.drewN q) hu h.ffrom h.fhalf (by omega) (by omega)
  rw [← hbd] at BC
  obtain ⟨a, ha⟩ : ∃ a : Int, a = ((p.b + (1 + sumNd j.y.size p.rs) : Nat) : Int) := ⟨_, rfl⟩
  rw [← ha] at c6
  have HE : Hid (leftN j.y.size p = (p.b : Int) + (p.half : Int) - a) := by show _ = _; unfold leftN; omega
  have s1 : IntKind.i64.wrap ((p.b : Int) + (p.half : Int)) = (p.b : Int) + (p.half : Int) := by rw [IntKind.wrap_i64]; omega
  have a1 : 0 ≤ a := by omega
  have a2 : a ≤ 200000 := by omega
  have b1 : (p.b : Int) ≤ 65536 := by omega
  have b2 : (p.half : Int) ≤ 65536 := by omega
  have s2 : IntKind.i64.wrap ((p.b : Int) + (p.half : Int) - a) = (p.b : Int) + (p.half : Int) - a := by rw [IntKind.wrap_i64]; omega
  clear h hu hbd hpa ha z1 z2 z3 z4 z5 z6 z7 z8
  go_enter Tryd.func20, Tryd.ntmps20
  go_wp2_with fail
  go_quiet ((go_at_call 42; (with_reducible refine Calls.quiet_of (BC _))))
  clear BC
  go_wp2
  go_ret
  exact ⟨by rw [HE.out]; rfl, _, rfl⟩
def RetJ (w : World) (base : Nat) (j : JL) (E : Int) (p' : PJ) (e : Ending) (w' : World) : Prop := e = .returned (.int .i64 E) ∧ NextJ w base j p' w'
theorem jsync_calls (j : JL) (p : PJ) (w : World) (base : Nat) (h : JLog w base j p) :
    Calls Tryd.prog 31 #[.pointer (some ⟨j.G, 0, none⟩)] w (RetJ w base j 0 p.sync) := by
  have c0 := h.ok.c0
  have hof : j.y.abs.off = false := h.inv.base.off
  have FC := flush_calls j.y w base h.ok.dk (by have := h.waits; omega)
  have e1 : j.y.abs.flushE = 0 := by unfold DiskP.Dsk.flushE; rw [hof]; rfl
  have e2 : j.y.abs.flushS = j.y.abs.flush := by unfold DiskP.Dsk.flushS; rw [hof]; rfl
  rw [e1, e2] at FC
  have HP := Lib.hid (fun w' (n : Next w base j.y j.y.abs.flush w') => h.disk n h.inv.sync rfl (applyW_length _ _))
  clear h hof e1 e2
  go_enter Tryd.func31, Tryd.ntmps31
  go_wp2_with fail
  refine FC.mono ?_
  clear FC
  rintro e w1 ⟨rfl, n⟩
  have HF : Hid (RetJ w base j 0 p.sync (.returned (.int .i64 0)) w1) := ⟨rfl, HP.out w1 n⟩
  clear n HP
  go_wp2
  go_ret
  exact HF.out
end Go.Proofs.YtpojlchikaffhaaDoor
namespace Go.Proofs.YtpojlchikaffhaaDoor
open Go.RowKit DiskP PageP JourP

theorem RowR.appendV {w1 w3 w4 : World} {base : Nat} {F : Nat → Prop} {v v4 : Value} {rs xs : List RecR} (h : RowR w1 base F v rs) (b3 : Below w1.heap.size w1 w3)
    (o3 : ∀ x ∈ xs, RecOK w3 (fun k => v.ownBlock = some k ∨ F k) x) (own4 : w4.ownsRow base 40 2 v4 (rs.length + xs.length) (rC rs ++ rC xs)) (gr : w3.grownBy w4 v.ownBlock) (hv : v4.ownBlock = v.ownBlock ∨ v4.ownBlock = some w3.heap.size) : RowR w4 base F v4 (rs ++ xs) := by
  have K : Kept (fun k => v.ownBlock = some k) w1 w4 := (Kept.of_below b3 _).trans ((Kept.refl _ w3).grown gr (fun k hk => .inl hk))
  have K3 : Kept (fun k => v.ownBlock = some k) w3 w4 := (Kept.refl _ w3).grown gr (fun k hk => .inl hk)
  have hsz := b3.size
  refine ⟨by simp only [List.length_append, rC_append]; exact own4, fun z hz => ?_⟩
  rcases List.mem_append.1 hz with hz | hz
  · refine (h.ks z hz).next (K.mono fun _ _ hf => .inl hf) (fun k hk hf => ?_)
    rcases hf with hf | hf
    · rcases hv with e | e
      · rw [e] at hf; exact .inl hf
      · rw [e] at hf; injection hf with hf; omega
    · exact .inr hf
  · refine (o3 z hz).next (K3.mono fun _ _ hf => .inl hf) (fun k hk hf => ?_)
    rcases hf with hf | hf
    · rcases hv with e | e
      · rw [e] at hf; exact .inl hf
      · rw [e] at hf; injection hf with hf; omega
    · exact .inr hf
/-- A log whose records are put behind by others: w1 is where it stood, w3 where the row is put behind, w4 what became of it; then its struct's last cell is stored. -/
theorem JOK.append {w1 w3 w4 : World} {base : Nat} {j : JL} {xs : List RecR} {v4 : Value} (h : JOK w1 base j) (b3 : Below w1.heap.size w1 w3) (o3 : ∀ x ∈ xs, RecOK w3 j.foot x)
    (own4 : w4.ownsRow base 40 2 v4 (j.rs.length + xs.length) (rC j.rs ++ rC xs)) (gr : w3.grownBy w4 j.v.ownBlock) (hv : v4.ownBlock = j.v.ownBlock ∨ v4.ownBlock = some w3.heap.size) :
    JOK (w4.setCell ⟨j.G, 7, none⟩ v4) base { j with v := v4, rs := j.rs ++ xs } ∧ Kept j.foot w1 (w4.setCell ⟨j.G, 7, none⟩ v4) ∧ ∀ k, ({ j with v := v4, rs := j.rs ++ xs } : JL).foot k → j.foot k ∨ w1.heap.size ≤ k := by
  have hs := b3.size
  have K : Kept (fun k => j.v.ownBlock = some k) w1 w4 := (Kept.of_below b3 _).trans ((Kept.refl _ w3).grown gr (fun k hk => .inl hk))
  have hG := h.gk.lt
  have row4 := h.kp.row.appendV b3 (fun x hx => (o3 x hx).mono fun k _ hk => by
    rcases hk with hk | hk | hk
    · exact .inr (.inl hk)
    · exact .inl hk
    · exact .inr (.inr hk)) own4 gr hv
  have hvn : ∀ k, v4.ownBlock = some k → j.v.ownBlock = some k ∨ w1.heap.size ≤ k := fun k hk => by
    rcases hv with e | e
    · rw [e] at hk; exact .inl hk
    · rw [e] at hk; injection hk with hk; exact .inr (by omega)
  have gk4 : Blk w4 j.G 76 j.cells := (K.block j.G hG h.kp.gv).trans h.gk
  have dk4 : DiskOK w4 base j.y := h.dk.kept K fun k hk hv => h.kp.vy k hv hk
  have kp4 : KeepR w4 base j.G j.y v4 (j.rs ++ xs) := ⟨row4, fun e => by
    rcases hvn j.G e with e | e
    · exact h.kp.gv e
    · omega, fun k hk hf => by
    rcases hvn k hk with e | e
    · exact h.kp.vy k e hf
    · have := (h.dk.foot_lt hf).2; omega⟩
  have K5 : Kept (fun k => k = j.G) w4 (w4.setCell ⟨j.G, 7, none⟩ v4) := (Kept.refl (fun k => k = j.G) w4).setCell (p := ⟨j.G, 7, none⟩) (.inl rfl) v4
  refine ⟨⟨gk4.set_ 7 v4, dk4.kept K5 (fun k hk e => h.gy (by rw [← e]; exact hk)), kp4.struct K5, h.bG, h.gy⟩, (K.mono fun k _ hk => .inr (.inl hk)).trans (K5.mono fun k _ hk => .inl hk), fun k hk => ?_⟩
  rcases hk with hk | hk | hk
  · exact .inl (.inl hk)
  · exact (hvn k hk).imp (fun e => .inr (.inl e)) id
  · exact .inl (.inr (.inr hk))
/-- Behind a store of its last sector's number. -/
theorem JOK.setAt {w : World} {base : Nat} {j : JL} (h : JOK w base j) (n : Int) : JOK (w.setCell ⟨j.G, 6, none⟩ (.int .i64 n)) base { j with at_ := n } ∧ Kept j.foot w (w.setCell ⟨j.G, 6, none⟩ (.int .i64 n)) := by
  have K5 : Kept (fun k => k = j.G) w (w.setCell ⟨j.G, 6, none⟩ (.int .i64 n)) := (Kept.refl (fun k => k = j.G) w).setCell (p := ⟨j.G, 6, none⟩) (.inl rfl) _
  exact ⟨h.struct K5 rfl rfl (h.gk.set_ 6 _) h.kp, K5.mono fun k _ hk => .inl hk⟩
/-- What is not of a log stays; what is new of it lies in new blocks. -/
def FootN (w : World) (j j' : JL) (w' : World) : Prop := Kept j.foot w w' ∧ ∀ k, j'.foot k → j.foot k ∨ w.heap.size ≤ k
theorem FootN.trans {a b c : World} {j j' j'' : JL} (h : FootN a j j' b) (k : FootN b j' j'' c) : FootN a j j'' c := by
  obtain ⟨h1, h2⟩ := h
  obtain ⟨k1, k2⟩ := k
  have hs := h1.size
  refine ⟨⟨k1.os.trans h1.os, k1.tape.trans h1.tape, k1.output.trans h1.output, Nat.le_trans h1.size k1.size, fun i hi hf => (k1.block i (by omega) fun hf' => ?_).trans (h1.block i hi hf)⟩, fun i hi => ?_⟩
  · rcases h2 i hf' with e | e
    · exact hf e
    · omega
  · rcases k2 i hi with e | e
    · exact h2 i e
    · exact .inr (by omega)
theorem FootN.below {w w' : World} {j : JL} (b : Below w.heap.size w w') : FootN w j j w' := ⟨Kept.of_below b _, fun _ hk => .inl hk⟩
theorem FootN.disk {w w' : World} {j : JL} {y' : Lay} (h4 : Kept j.y.foot w w') (h5 : ∀ k, y'.foot k → j.y.foot k ∨ w.heap.size ≤ k) : FootN w j { j with y := y' } w' := ⟨h4.mono fun k _ hk => .inr (.inr hk), fun k hk => by
  rcases hk with hk | hk | hk
  · exact .inl (.inl hk)
  · exact .inl (.inr (.inl hk))
  · exact (h5 k hk).imp (fun hf => .inr (.inr hf)) id⟩
theorem FootN.setAt {w : World} {base : Nat} {j : JL} (h : JOK w base j) (n : Int) : FootN w j { j with at_ := n } (w.setCell ⟨j.G, 6, none⟩ (.int .i64 n)) := ⟨(h.setAt n).2, fun _ hk => .inl hk⟩
end Go.Proofs.YtpojlchikaffhaaDoor
