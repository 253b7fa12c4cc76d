/-
  Walk: a tier is made.
-/
import Derived.Test.YtnjcaepbelgpfaaGreatDoorTopAdd
import Derived.Deep.RegionHeld
namespace Go.Proofs.YtnjcaepbelgpfaaGreatDoor
open Go.RowKit Go.Maps Go.WideMaps TopP Go.Shelf

/-- The names of k parents, the first of which is c. -/
def ksOf (c k : Nat) : List Txt := (List.range k).map fun j => nm (c + j)
theorem ksOf_len (c k : Nat) : (ksOf c k).length = k := by simp [ksOf]
theorem ksOf_next (c k : Nat) : ksOf c (k + 1) = ksOf c k ++ [nm (c + k)] := by simp [ksOf, List.range_succ]
theorem ksOf_mem {c k : Nat} {x : Txt} : x ∈ ksOf c k ↔ ∃ j, j < k ∧ x = nm (c + j) := by
  unfold ksOf
  simp only [List.mem_map, List.mem_range]
  constructor
  · rintro ⟨j, h, e⟩; exact ⟨j, h, e.symm⟩
  · rintro ⟨j, h, e⟩; exact ⟨j, h, e.symm⟩
theorem ksOf_new {c k : Nat} (h : c + k < 10) : nm (c + k) ∉ ksOf c k := fun hm => by
  obtain ⟨j, hj, e⟩ := ksOf_mem.1 hm
  have := nm_inj (c + k) h (c + j) (by omega) e
  omega
/-- The ring while names are added: none yet, or k of them. -/
def RingK (w : World) (r c k : Nat) : Prop :=
  (k = 0 ∧ Blk w r 59 #[.int .i64 16, .map none, .slice none 0 0]) ∨ (0 < k ∧ ∃ L, RingW w r (ksOf c k) L ∧ L.length = 16 * k ∧ ∀ x, x ∈ L.map (·.2) ↔ x ∈ ksOf c k)
theorem RingK.lt {w : World} {r c k : Nat} (h : RingK w r c k) : r < w.heap.size := by
  rcases h with ⟨_, h⟩ | ⟨_, L, ⟨mb, v, F, h, _⟩, _⟩
  · exact h.lt
  · exact h.lt
theorem addK_calls (w : World) (r c k : Nat) (h : RingK w r c k) (hc : c + k < 10) :
    Calls Tryz.prog 10 #[.pointer (some ⟨r, 0, none⟩), .string (bstr (nm (c + k))), .int .i64 1] w fun e w' => e = .returned (.int .i64 0) ∧ Below r w w' ∧ RingK w' r c (k + 1) := by
  have hl := nm_len (c + k) hc
  rcases h with ⟨rfl, h⟩ | ⟨hk, L, h, hL, hm⟩
  · refine (add_first w r [] [] rfl rfl (nm (c + 0)) (by omega) (by omega) (nm_ok _ hc) h).mono ?_
    rintro e w' ⟨rfl, b, L', h1, h2, h3⟩
    refine ⟨rfl, b, .inr ⟨by omega, L', ?_, by simpa using h2, fun x => ?_⟩⟩
    · rw [ksOf_next]; exact h1
    · rw [h3 x, ksOf_next]
      simp [ksOf]
  · refine (add_more w r (ksOf c k) L (nm (c + k)) (by omega) (by omega) (nm_ok _ hc) h (ksOf_new hc) (by rw [ksOf_len]; omega) (by omega)).mono ?_
    rintro e w' ⟨rfl, b, L', h1, h2, h3⟩
    refine ⟨rfl, b, .inr ⟨by omega, L', ?_, by omega, fun x => ?_⟩⟩
    · rw [ksOf_next]; exact h1
    · rw [h3 x, hm x, ksOf_next]
      simp
/-- A tier: n nodes, the parents from c on; dn says which are down. -/
structure TierR (w : World) (T n c r db m : Nat) (ks : Nat) (L : List Pt) (dn : Int → Bool) : Prop where
  blk : Blk w T 38 #[.int .i64 n, .int .i64 c, .pointer (some ⟨r, 0, none⟩), .map (some db)]
  ring : RingR w r ks L
  down : ∃ F, MapV w 3 db m F ∧ ∀ q : Int, F (.int .i64 q) = if dn q then some (.bool true) else none
theorem TierR.below {w w' : World} {T n c r db m ks : Nat} {L : List Pt} {dn : Int → Bool} (h : TierR w T n c r db m ks L dn) (d : Below w.heap.size w w') : TierR w' T n c r db m ks L dn := by
  obtain ⟨F, h1, h2⟩ := h.down
  exact ⟨h.blk.below d h.blk.lt, h.ring.below d, F, h1.below d h1.lt, h2⟩
/-- All blocks from r on are as they were. -/
def Agree (r : Nat) (w w' : World) : Prop := w.heap.size ≤ w'.heap.size ∧ ∀ k, r ≤ k → k < w.heap.size → w'.heap[k]? = w.heap[k]?
theorem Agree.refl (r : Nat) (w : World) : Agree r w w := ⟨Nat.le_refl _, fun _ _ _ => rfl⟩
theorem Agree.trans {r : Nat} {a b c : World} (h : Agree r a b) (k : Agree r b c) : Agree r a c := ⟨Nat.le_trans h.1 k.1, fun j h1 h2 => (k.2 j h1 (Nat.lt_of_lt_of_le h2 h.1)).trans (h.2 j h1 h2)⟩
theorem Agree.of_below {r : Nat} {w w' : World} (h : Below w.heap.size w w') : Agree r w w' := ⟨h.size, fun k _ hk => h.block k hk⟩
theorem Agree.of_grown {r b : Nat} {w w' : World} (h : w.grownBy w' (some b)) (hb : b < r) : Agree r w w' := ⟨h.size, fun k h1 hk => h.block k hk fun q => by have := Option.some.inj q; omega⟩
theorem RingW.agree {w w' : World} {r : Nat} {ks : List Txt} {L : List Pt} (h : RingW w r ks L) (d : Agree r w w') : RingW w' r ks L := by
  obtain ⟨mb, v, F, h1, h2, h3, h4, h5, h6⟩ := h
  exact ⟨mb, v, F, (d.2 r (Nat.le_refl _) h1.lt).trans h1, h2.of_block (d.2 mb (Nat.le_of_lt h5) h2.lt), h3, own_frame h4 fun j hj => d.2 j (h4.lt j hj).1 (h4.lt j hj).2, h5, h6⟩
/-- What New leaves. -/
def RetNew (w : World) (n c p : Nat) (e : Ending) (w' : World) : Prop :=
  ∃ T r db L, e = .returned (.tuple #[.pointer (some ⟨T, 0, none⟩), .int .i64 0]) ∧ TierR w' T n c r db 0 p L (fun _ => false) ∧ Below w.heap.size w w' ∧ w.heap.size ≤ db ∧ db < T ∧ T < r ∧ L.length = 16 * p ∧ (∀ x, x ∈ L.map (·.2) ↔ x ∈ ksOf c p) ∧ ∀ w2, Agree r w' w2 → RingR w2 r p L
set_option maxRecDepth 100000 in
set_option maxHeartbeats 1600000 in
theorem ringnew_calls (w : World) : Calls Tryz.prog 9 #[.int .i64 16] w fun e w' => e = .returned (.tuple #[.pointer (some ⟨w.heap.size, 0, none⟩), .int .i64 0]) ∧ w' = w.alloc (.cells #[.int .i64 16, .map none, .slice none 0 0] 59) := by
  go_enter Tryz.func9, Tryz.ntmps9
  go_wp2
  go_ret2
  exact ⟨rfl, rfl⟩
set_option maxRecDepth 100000 in
set_option maxHeartbeats 1600000 in
theorem new_calls (n p : Nat) (h1 : 1 ≤ p) (h2 : p < n) (h3 : n ≤ 7) (w : World) :
    Calls Tryz.prog 4 #[.int .i64 n, .int .i64 p] w (RetNew w n (n - p) p) := by
  have RN := fun w => ringnew_calls w
  have d1 : ¬ ((n : Int) < 1) := by omega
  have d2 : ¬ (64 < (n : Int)) := by omega
  have d3 : ¬ ((p : Int) < 0) := by omega
  have d4 : ¬ ((n : Int) ≤ (p : Int)) := by omega
  have hmm := @run_makeMap Tryz.prog
  obtain ⟨c, hc⟩ : ∃ c, c = n - p := ⟨_, rfl⟩
  rw [← hc]
  have ec : (n : Int) - (p : Int) = (c : Int) := by omega
  have hcn : Hid (c + p = n) := by show _ = _; omega
  clear hc
  go_enter Tryz.func4, Tryz.ntmps4
  go_upto_region 6 with (go_at_call 9; (with_reducible refine (RN _).mono ?_); rintro e w' ⟨rfl, rfl⟩)
  obtain ⟨w1, hw1⟩ : ∃ x, x = w.alloc (.map #[] 0) := ⟨_, rfl⟩
  obtain ⟨w2, hw2⟩ : ∃ x, x = w1.alloc (.cells #[.int .i64 n, .int .i64 c, .pointer (some ⟨w.heap.size + 1 + 1, 0, none⟩), .map (some w.heap.size)] 38) := ⟨_, rfl⟩
  obtain ⟨w3, hw3⟩ : ∃ x, x = w2.alloc (.cells #[.int .i64 16, .map none, .slice none 0 0] 59) := ⟨_, rfl⟩
  rw [← hw1]
  rw [← hw2]
  rw [← hw3]
  have z1 : w1.heap.size = w.heap.size + 1 := by rw [hw1]; simp
  have z2 : w2.heap.size = w.heap.size + 2 := by rw [hw2]; simp [z1]
  have m1 := MapV.made w 3
  rw [← hw1] at m1
  have t2 := Blk.new w1 38 #[.int .i64 n, .int .i64 c, .pointer (some ⟨w.heap.size + 1 + 1, 0, none⟩), .map (some w.heap.size)]
  rw [← hw2, z1] at t2
  have r3 := Blk.new w2 59 #[.int .i64 16, .map none, .slice none 0 0]
  rw [← hw3, z2] at r3
  have b1 : Below w.heap.size w w1 := by rw [hw1]; exact (Below.refl _ _).alloc (Nat.le_refl _) _
  have b2 : Below w.heap.size w w2 := by rw [hw2]; exact b1.alloc b1.size _
  have b3 : Below w.heap.size w w3 := by rw [hw3]; exact b2.alloc b2.size _
  have m2 : MapV w2 3 w.heap.size 0 (fun _ => none) := by rw [hw2]; exact m1.alloc _
  have m3 : MapV w3 3 w.heap.size 0 (fun _ => none) := by rw [hw3]; exact m2.alloc _
  have t3 : Blk w3 (w.heap.size + 1) 38 #[.int .i64 n, .int .i64 c, .pointer (some ⟨w.heap.size + 1 + 1, 0, none⟩), .map (some w.heap.size)] := by rw [hw3]; exact t2.alloc _
  have rk : RingK w3 (w.heap.size + 1 + 1) c 0 := .inl ⟨rfl, r3⟩
  have hTr : w.heap.size + 1 < w.heap.size + 1 + 1 := Nat.lt_succ_self _
  have hdT : w.heap.size < w.heap.size + 1 := Nat.lt_succ_self _
  clear hw1 hw2 hw3 z1 z2 m1 m2 t2 r3 b1 b2 w1 w2 hmm RN d1 d2 d3 d4 ec
  revert m3 t3 rk hTr hdT
  generalize w.heap.size + 1 + 1 = r
  generalize w.heap.size + 1 = T
  obtain ⟨db, hdb⟩ : ∃ d, d = w.heap.size := ⟨_, rfl⟩
  rw [← hdb]
  have hdw : w.heap.size ≤ db := by omega
  clear hdb
  intro m3 t3 rk hTr hdT
  have c1 := t3.at_ (i := 1) (v := .int .i64 c) rfl
  go_wp2_with fail
  go_loopw [8] (fun i wr => ∃ k q : Nat, k ≤ p ∧ i = .int .i64 (q : Int) ∧ Hid (q = c + k) ∧ Blk wr T 38 #[.int .i64 n, .int .i64 c, .pointer (some ⟨r, 0, none⟩), .map (some db)] ∧ MapV wr 3 db 0 (fun _ => none) ∧ RingK wr r c k ∧ Below w.heap.size w wr) (fun i _ => n - (intOf i).toNat)
  case atStart => exact ⟨0, c, Nat.zero_le _, rfl, Lib.hid rfl, t3, m3, rk, b3⟩
  case round =>
  clear t3 m3 rk b3 c1
  obtain ⟨k, q, hk, rfl, hq, tb, mb, rk, B⟩ := hrel
  have hqc := hq.out
  have hcn2 := hcn.out
  by_cases hlt : k < p
  case neg =>
    obtain rfl : k = p := by omega
    have dec : decide ((q : Int) < (n : Int)) = false := decide_eq_false (by omega)
    have dec' : decide (q < n) = false := decide_eq_false (by omega)
    rcases rk with ⟨h0, _⟩ | ⟨_, L, hR, hL, hm⟩
    · omega
    have HF : Hid (RetNew w n c k (.returned (.tuple #[.pointer (some ⟨T, 0, none⟩), .int .i64 0])) wr) := ⟨T, r, db, L, rfl, ⟨tb, by have := hR.reads; rwa [ksOf_len] at this, _, mb, fun q => rfl⟩, B, hdw, hdT, hTr, hL, hm, fun w2 d => by have := (hR.agree d).reads; rwa [ksOf_len] at this⟩
    clear hR hL hm tb mb B hcn2 hqc
    go_wp2_with fail
    go_ret2
    exact HF.out
  have dec : decide ((q : Int) < (n : Int)) = true := decide_eq_true (by omega)
  have dec' : decide (q < n) = true := decide_eq_true (by omega)
  have h10 : c + k < 10 := by omega
  have hq9 : q < 10 := by omega
  have NC := fun w => (name_calls (c + k) (by omega) w).mono (fun _ _ h => (⟨h.1, h.2.symm⟩ : _ ∧ w = _))
  have AC := addK_calls wr.drew r c k rk h10
  rw [← hqc] at NC AC
  have f2 := tb.at_ (i := 2) (v := .pointer (some ⟨r, 0, none⟩)) rfl
  have hrw : w.heap.size ≤ r := by omega
  have hrl := rk.lt
  have HB : Hid (∀ w', Below r wr.drew w' → Blk w' T 38 #[.int .i64 n, .int .i64 c, .pointer (some ⟨r, 0, none⟩), .map (some db)] ∧ MapV w' 3 db 0 (fun _ => none) ∧ Below w.heap.size w w') := fun w' b => ⟨tb.drew.below b hTr, mb.drew.below b (by omega), (B.drew).trans (b.mono hrw)⟩
  go_upto_region 11 with fail
  clear hcn2 tb mb B rk hqc h10
  go_region_held (fun wq => wq.cell? ⟨T, 2, none⟩ = some (.pointer (some ⟨r, 0, none⟩))) (first | exact f2 | exact f3) (first
    | (go_at_call 11; (with_reducible refine (NC _).mono ?_); rintro e w' ⟨rfl, rfl⟩)
    | (go_at_call 10; (with_reducible refine AC.mono ?_); rintro e w' ⟨rfl, bA, rkA⟩; have f3 := (HB.out w' bA).1.at_ (i := 2) (v := .pointer (some ⟨r, 0, none⟩)) rfl))
  obtain ⟨tb, mb, B⟩ := HB.out w' bA
  have c1 := tb.at_ (i := 1) (v := .int .i64 c) rfl
  clear f2 f3 HB NC AC bA hrl
  go_wp2_with fail
  refine ⟨⟨k + 1, q + 1, by omega, by rw [show ((q : Int) + 1) = ((q + 1 : Nat) : Int) by omega], Lib.hid (by rw [hq.out]; omega), tb, mb, rkA, B⟩, ?_⟩
  have hqc := hq.out
  have hcn2 := hcn.out
  rw [show ((q : Int) + 1) = ((q + 1 : Nat) : Int) by omega]
  simp only [intOf, Int.toNat_natCast]
  omega
end Go.Proofs.YtnjcaepbelgpfaaGreatDoor
