/-
  The law TopDown, walked.
-/
import Derived.Test.YtnjcaepbelgpfaaGreatDoorTopParent
import Derived.Test.YtnjcaepbelgpfaaGreatDoorTopAlive
namespace Go.Proofs.YtnjcaepbelgpfaaGreatDoor
open Go.RowKit Go.Maps Go.WideMaps TopP Go.Shelf

/-- Who has an object, as numbers: all parents, each once. -/
def numsOf (L : List Pt) (o : Txt) (m : Nat) : List Int := (ownersOf L o m).map fun t => (numOf t : Int)
theorem own_mem {L : List Pt} {c p n : Nat} (hm : ∀ x, x ∈ L.map (·.2) ↔ x ∈ ksOf c p) (hp : p < n) (o : Txt) : (ownersOf L o (min n p)).Nodup ∧ ∀ x, x ∈ ownersOf L o (min n p) ↔ x ∈ ksOf c p := by
  have := owners_all (L.map (·.2)) (bsI L (hashF o 14695981039346656037)) (min n p) (ksOf c p) (fun x hx => (hm x).1 hx) (by rw [ksOf_len]; omega)
  exact ⟨this.1, fun x => (this.2 x).trans (hm x)⟩
theorem nums_law {L : List Pt} {c p n : Nat} (hm : ∀ x, x ∈ L.map (·.2) ↔ x ∈ ksOf c p) (hcp : c + p = n) (hc : 1 ≤ c) (hn : n ≤ 7) (o : Txt) (g : Nat) (hg : c ≤ g ∧ g < n) :
    ∃ x, firstUp (fun _ => false) (numsOf L o (min n p)) = some x ∧ (x ≠ (g : Int) → firstUp (fun q => decide (q = (g : Int))) (numsOf L o (min n p)) = some x) ∧ firstUp (fun q => decide (q = (g : Int))) (numsOf L o (min n p)) ≠ some (g : Int) ∧ ((firstUp (fun q => decide (q = (g : Int))) (numsOf L o (min n p))).isSome = true ↔ (1 : Int) < (n : Int) - (c : Int)) := by
  obtain ⟨hn1, hm1⟩ := own_mem (n := n) hm (by omega) o
  refine first_law (numsOf L o (min n p)) (c : Int) (n : Int) (g : Int) ?_ ?_ (by omega)
  · unfold numsOf
    rw [List.Nodup, List.pairwise_map]
    refine hn1.imp_of_mem fun {a b} ha hb hab e => ?_
    obtain ⟨j, hj, rfl⟩ := ksOf_mem.1 ((hm1 a).1 ha)
    obtain ⟨i, hi, rfl⟩ := ksOf_mem.1 ((hm1 b).1 hb)
    rw [numOf_nm _ (by omega), numOf_nm _ (by omega)] at e
    exact hab (by rw [show c + j = c + i by omega])
  · intro x
    unfold numsOf
    rw [List.mem_map]
    constructor
    · rintro ⟨t, ht, rfl⟩
      obtain ⟨j, hj, rfl⟩ := ksOf_mem.1 ((hm1 t).1 ht)
      rw [numOf_nm _ (by omega)]
      omega
    · intro hx
      refine ⟨nm x.toNat, (hm1 _).2 (ksOf_mem.2 ⟨x.toNat - c, by omega, by rw [show c + (x.toNat - c) = x.toNat by omega]⟩), ?_⟩
      rw [numOf_nm _ (by omega)]
      omega
/-- What the law's loop holds. -/
structure DownW (w0 wN wr : World) (T n c r db p : Nat) (L : List Pt) (m : Nat) (dn : Int → Bool) : Prop where
  tier : TierR wr T n c r db m p L dn
  agree : Agree r wN wr
  bel : Below w0.heap.size w0 wr
/-- What stays the same all along. -/
structure DownC (w0 wN : World) (T n c r db p : Nat) (L : List Pt) : Prop where
  hk : ∀ w2, Agree r wN w2 → RingR w2 r p L
  low : w0.heap.size ≤ db
  dT : db < T
  Tr : T < r
  cp : c + p = n
  c1 : 1 ≤ c
  p1 : 1 ≤ p
  n7 : n ≤ 7
  len : L.length = 16 * p
  mem : ∀ x, x ∈ L.map (·.2) ↔ x ∈ ksOf c p
theorem DownC.short {w0 wN : World} {T n c r db p : Nat} {L : List Pt} (h : DownC w0 wN T n c r db p L) : ∀ q ∈ L, q.2.length ≤ 1000 := fun q hq => by
  obtain ⟨j, hj, e⟩ := ksOf_mem.1 ((h.mem q.2).1 (List.mem_map.2 ⟨q, hq, rfl⟩))
  have := h.cp
  have := h.n7
  rw [e, nm_len (c + j) (by omega)]
  omega
theorem DownC.parent {w0 wN wr : World} {T n c r db p m : Nat} {L : List Pt} {dn : Int → Bool} (h : DownC w0 wN T n c r db p L) (S : DownW w0 wN wr T n c r db p L m dn) (o : Txt) (ho : o.length ≤ 100) :
    Calls Tryz.prog 6 #[.pointer (some ⟨T, 0, none⟩), .int .i64 0, .string (bstr o)] wr fun e w' => e = upV (firstUp dn (numsOf L o (min n p))) ∧ DownW w0 wN w' T n c r db p L m dn := by
  have h1 := h.cp
  have h2 := h.n7
  have h3 := h.len
  refine (parent_calls wr T n c r db m p L dn S.tier h.c1 (by omega) (by omega) (by omega) h.short o (by omega) (fun x hx => ?_)).mono fun e w' q => ⟨q.1, S.tier.below q.2, S.agree.trans (Agree.of_below q.2), S.bel.trans (q.2.mono S.bel.size)⟩
  obtain ⟨j, hj, e⟩ := ksOf_mem.1 (((own_mem (n := n) h.mem (by have := h.c1; omega) o).2 x).1 hx)
  exact ⟨c + j, by omega, e⟩
theorem DownC.down {w0 wN wr : World} {T n c r db p m : Nat} {L : List Pt} (h : DownC w0 wN T n c r db p L) (S : DownW w0 wN wr T n c r db p L m (fun _ => false)) (hm : m ≤ 100) (g : Nat) (hg : c ≤ g ∧ g < n) :
    Calls Tryz.prog 7 #[.pointer (some ⟨T, 0, none⟩), .int .i64 g, .bool true] wr fun e w' => e = .returned (.int .i64 0) ∧ DownW w0 wN w' T n c r db p L (m + 1) (fun q => decide (q = (g : Int))) := by
  have h2 := h.n7
  have hdr : db < r := Nat.lt_trans h.dT h.Tr
  refine (down_calls wr w0.heap.size T n c r db m p L S.tier hm h.low h.dT h.Tr (fun w' g => h.hk w' (S.agree.trans (Agree.of_grown g hdr))) g hg.1 hg.2 (by omega) S.bel.size).mono fun e w' q => ⟨q.1, q.2.1, S.agree.trans (Agree.of_grown q.2.2.2 hdr), S.bel.trans q.2.2.1⟩
theorem DownC.up {w0 wN wr : World} {T n c r db p m : Nat} {L : List Pt} (h : DownC w0 wN T n c r db p L) (g : Nat) (S : DownW w0 wN wr T n c r db p L (m + 1) (fun q => decide (q = (g : Int)))) (hm : m ≤ 100) (hg : c ≤ g ∧ g < n) :
    Calls Tryz.prog 7 #[.pointer (some ⟨T, 0, none⟩), .int .i64 g, .bool false] wr fun e w' => e = .returned (.int .i64 0) ∧ DownW w0 wN w' T n c r db p L m (fun _ => false) := by
  have h2 := h.n7
  have hdr : db < r := Nat.lt_trans h.dT h.Tr
  refine (up_calls wr w0.heap.size T n c r db m p L g S.tier hm h.low h.dT h.Tr (fun w' g => h.hk w' (S.agree.trans (Agree.of_grown g hdr))) hg.1 hg.2 (by omega) S.bel.size).mono fun e w' q => ⟨q.1, q.2.1, S.agree.trans (Agree.of_grown q.2.2.2 hdr), S.bel.trans q.2.2.1⟩
theorem DownC.order {w0 wN wr : World} {T n c r db p m : Nat} {L : List Pt} {dn : Int → Bool} (h : DownC w0 wN T n c r db p L) (S : DownW w0 wN wr T n c r db p L m dn) :
    Calls Tryz.prog 8 #[.pointer (some ⟨T, 0, none⟩)] wr fun e w' => (∃ A cap, e = .returned (.slice A n cap)) ∧ DownW w0 wN w' T n c r db p L m dn := by
  have h1 := h.cp
  have h2 := h.n7
  exact (order_len wr T n c r db S.tier.blk (by omega) (by omega)).mono fun e w' q => ⟨q.1, S.tier.below q.2, S.agree.trans (Agree.of_below q.2), S.bel.trans (q.2.mono S.bel.size)⟩
end Go.Proofs.YtnjcaepbelgpfaaGreatDoor
