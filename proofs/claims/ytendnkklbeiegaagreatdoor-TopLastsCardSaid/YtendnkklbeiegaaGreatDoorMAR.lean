/-
  A store that is put together on a disk: how it lies; its log turned to what it holds.
-/
import Derived.Test.YtendnkklbeiegaaGreatDoorStoRecords
import Derived.Test.YtendnkklbeiegaaGreatDoorMAM
import Derived.Test.YtendnkklbeiegaaGreatDoorMAQ
import Derived.Test.YtendnkklbeiegaaGreatDoorStoHeedB
import Derived.Test.YtendnkklbeiegaaGreatDoorStoPut
import Derived.Carry
import Derived.Deep.Cut
import Derived.Deep.CutRange
import Derived.Test.YtendnkklbeiegaaGreatDoorMAT
namespace Go.Proofs.YtendnkklbeiegaaGreatDoor
open Go.RowKit Go.Maps StoreP JourP DiskP PageP

theorem ExtOK.low {w : World} {base b' lo hi : Nat} {x : XMap} {Fr : Nat → Prop} (h : ExtOK w base lo hi x Fr) (hb : b' ≤ base) : ExtOK w b' lo hi x Fr := { h with row := own_mono h.row hb, bM := Nat.le_trans hb h.bM }
def storeC (D : Nat) (lg fr : Value) (N : Nat) : Array Value := #[.pointer (some ⟨D, 0, none⟩), .int .i64 128, lg, fr, .map (some N), .map (some (N + 1)), .slice none 0 0, .int .i64 0, .int .i64 0]
/-- Where it lies. -/
def startL (N : Nat) (j : JL) (x : XMap) : StoL := ⟨N + 2, j, x, N, 0, N + 1, 0, .slice none 0 0⟩
def startS (p : PJ) (d : Dsk) : SP := ⟨p, d, St.empty, fun s => 128 ≤ s ∧ s < 512, 0, 0, 0, fun _ => False⟩
set_option maxHeartbeats 800000 in
theorem open_start {w wa w1 w3 : World} {base N : Nat} {y : Lay} {j : JL} {p : PJ} {x : XMap} (hy : DiskOK w base y) (hN : N = w.heap.size) (hza : wa.heap.size = N + 3) (ba : Below w.heap.size w wa) (bx : Blk wa (N + 2) 99 (storeC y.D (.pointer none) (.pointer none) N))
    (m1 : MapV wa 2 N 0 (fun _ => none)) (m2 : MapV wa 40 (N + 1) 0 (fun _ => none)) (hb : base ≤ w.heap.size)
    (lg : JLog w1 base j p) (hD : j.y.D = y.D) (hz : j.y.size = 128 ∧ j.y.lp.length = 512) (K : Kept y.foot wa w1) (hf : ∀ i, j.foot i → y.foot i ∨ wa.heap.size ≤ i) (hbo : ∀ z ∈ j.rs, RecOK w1 (fun i => i < wa.heap.size) z)
    (ex : ExtOK w3 (w1.setCell ⟨N + 2, 2, none⟩ (.pointer (some ⟨j.G, 0, none⟩))).heap.size 128 512 x (fun s => 128 ≤ s ∧ s < 512)) (b3 : Below (w1.setCell ⟨N + 2, 2, none⟩ (.pointer (some ⟨j.G, 0, none⟩))).heap.size (w1.setCell ⟨N + 2, 2, none⟩ (.pointer (some ⟨j.G, 0, none⟩))) w3) :
    Blk w1 (N + 2) 99 (storeC y.D (.pointer none) (.pointer none) N) ∧ Blk w3 (N + 2) 99 (storeC y.D (.pointer (some ⟨j.G, 0, none⟩)) (.pointer none) N) ∧
    StoOK (w3.setCell ⟨N + 2, 3, none⟩ (.pointer (some ⟨x.M, 0, none⟩))) base (startL N j x) (startS p j.y.abs) ∧ Kept y.foot w (w3.setCell ⟨N + 2, 3, none⟩ (.pointer (some ⟨x.M, 0, none⟩))) ∧ ∀ i, (startL N j x).all i → y.foot i ∨ w.heap.size ≤ i := by
  have hyl : ∀ k, y.foot k → base ≤ k ∧ k < N := fun k hk => by rw [hN]; exact hy.foot_lt hk
  have hjl : ∀ k, j.foot k → (base ≤ k ∧ k < N) ∨ N + 3 ≤ k := fun k hk => by
    rcases hf k hk with h | h
    · exact .inl (hyl k h)
    · rw [hza] at h; exact .inr h
  have hs1 := K.size
  have e2 : (w1.setCell ⟨N + 2, 2, none⟩ (.pointer (some ⟨j.G, 0, none⟩))).heap.size = w1.heap.size := by simp
  rw [e2] at ex b3
  have hs3 := b3.size
  have no : ∀ i, N ≤ i → i < N + 3 → ¬ y.foot i := fun i h1 _ hk => by have := hyl i hk; omega
  have g1 : ∀ i, N ≤ i → i < N + 3 → w1.heap[i]? = wa.heap[i]? := fun i h1 h2 => K.block i (by omega) (no i h1 h2)
  have bx1 : Blk w1 (N + 2) 99 (storeC y.D (.pointer none) (.pointer none) N) := (g1 _ (by omega) (by omega)).trans bx
  have K2 : Kept (fun i => i = N + 2) w1 (w1.setCell ⟨N + 2, 2, none⟩ (.pointer (some ⟨j.G, 0, none⟩))) := (Kept.refl (fun i => i = N + 2) w1).setCell (p := ⟨N + 2, 2, none⟩) (.inl rfl) _
  have bx2 := bx1.set_ 2 (.pointer (some ⟨j.G, 0, none⟩))
  have b3' : Below (w1.setCell ⟨N + 2, 2, none⟩ (.pointer (some ⟨j.G, 0, none⟩))).heap.size (w1.setCell ⟨N + 2, 2, none⟩ (.pointer (some ⟨j.G, 0, none⟩))) w3 := by rw [e2]; exact b3
  have bx3 : Blk w3 (N + 2) 99 (storeC y.D (.pointer (some ⟨j.G, 0, none⟩)) (.pointer none) N) := (bx2.below b3' (by rw [e2]; omega))
  have K3 : Kept (fun i => i = N + 2) w1 w3 := K2.trans (Kept.of_below b3' _)
  have K4 : Kept (fun i => i = N + 2) w1 (w3.setCell ⟨N + 2, 3, none⟩ (.pointer (some ⟨x.M, 0, none⟩))) := K3.setCell (p := ⟨N + 2, 3, none⟩) (.inl rfl) _
  have K34 : Kept (fun i => i = N + 2) w3 (w3.setCell ⟨N + 2, 3, none⟩ (.pointer (some ⟨x.M, 0, none⟩))) := (Kept.refl (fun i => i = N + 2) w3).setCell (p := ⟨N + 2, 3, none⟩) (.inl rfl) _
  have hxf : ∀ k, x.foot k → w1.heap.size ≤ k ∧ k < w3.heap.size := fun k hk => ex.foot_lt hk
  have lg4 : JLog (w3.setCell ⟨N + 2, 3, none⟩ (.pointer (some ⟨x.M, 0, none⟩))) base j p := lg.kept K4 (fun i hi e => by rcases hjl i hi with h | h <;> omega) fun z hz' => (hbo z hz').mono fun k _ hk => by rw [hza, hk]; omega
  have ex4 : ExtOK (w3.setCell ⟨N + 2, 3, none⟩ (.pointer (some ⟨x.M, 0, none⟩))) base 128 512 x (fun s => 128 ≤ s ∧ s < 512) := (ex.kept K34 fun k hk e => by have := hxf k hk; omega).low (by omega)
  have g4 : ∀ i, N ≤ i → i < N + 2 → (w3.setCell ⟨N + 2, 3, none⟩ (.pointer (some ⟨x.M, 0, none⟩))).heap[i]? = wa.heap[i]? := fun i h1 h2 => (K4.block i (by omega) (by omega)).trans (g1 i h1 (by omega))
  have hjlt : ∀ k, j.foot k → k < w1.heap.size := fun k hk => (lg.ok.foot_lt hk).2
  have hall : ∀ k, (startL N j x).all k → k = N + 2 ∨ j.foot k ∨ x.foot k ∨ k = N ∨ k = N + 1 := fun k ⟨q, hq⟩ => by
    cases q with
    | box => exact .inl hq
    | log => exact .inr (.inl hq)
    | free => exact .inr (.inr (.inl hq))
    | notes => exact .inr (.inr (.inr (.inl hq)))
    | slices => exact .inr (.inr (.inr (.inr hq)))
    | marks => simp [StoL.foot, startL, Value.ownBlock] at hq
  refine ⟨bx1, bx3, ⟨?_, lg4, ex4, ?_, ?_, World.ownsRow_nil _ _ _ _, ?_, fun z hz' => ?_, fun k hk => ?_, rfl, hz.1, hz.2, by simp [startL, startS, St.empty], fun k hk => hk.elim⟩, ?_, fun i hi => ?_⟩
  · have e : StoL.cells (startL N j x) 0 0 = storeC y.D (.pointer (some ⟨j.G, 0, none⟩)) (.pointer (some ⟨x.M, 0, none⟩)) N := by unfold StoL.cells startL storeC; simp only [hD]; rfl
    show Blk _ (N + 2) _ (StoL.cells (startL N j x) 0 0)
    rw [e]
    exact bx3.set_ 3 (.pointer (some ⟨x.M, 0, none⟩))
  · show MapV _ _ N 0 (encN (fun _ => none))
    rw [encN_none]
    exact m1.of_block (g4 N (by omega) (by omega))
  · show MapV _ _ (N + 1) 0 (encS (fun _ => none))
    rw [encS_none]
    exact m2.of_block (g4 (N + 1) (by omega) (by omega))
  · intro p q k hp hq
    have f : ∀ r, (startL N j x).foot r k → (r = .box ∧ k = N + 2) ∨ (r = .log ∧ j.foot k) ∨ (r = .free ∧ w1.heap.size ≤ k) ∨ (r = .notes ∧ k = N) ∨ (r = .slices ∧ k = N + 1) := fun r hr => by
      cases r with
      | box => exact .inl ⟨rfl, hr⟩
      | log => exact .inr (.inl ⟨rfl, hr⟩)
      | free => exact .inr (.inr (.inl ⟨rfl, (hxf k hr).1⟩))
      | notes => exact .inr (.inr (.inr (.inl ⟨rfl, hr⟩)))
      | slices => exact .inr (.inr (.inr (.inr ⟨rfl, hr⟩)))
      | marks => simp [StoL.foot, startL, Value.ownBlock] at hr
    rcases f p hp with ⟨rfl, h1⟩ | ⟨rfl, h1⟩ | ⟨rfl, h1⟩ | ⟨rfl, h1⟩ | ⟨rfl, h1⟩ <;> rcases f q hq with ⟨rfl, h2⟩ | ⟨rfl, h2⟩ | ⟨rfl, h2⟩ | ⟨rfl, h2⟩ | ⟨rfl, h2⟩
    all_goals first
      | rfl
      | (exfalso; omega)
      | (exfalso; have := hjl k h1; have := hjlt k h1; omega)
      | (exfalso; have := hjl k h2; have := hjlt k h2; omega)
  · have h1 := ((hbo z hz').cross (lg.ok.body z hz'))
    refine h1.next (K4.mono fun k _ hk => .inl (by rw [hza, hk]; omega)) fun k hk hq => ?_
    rcases hall k (hq.elim id fun q => q.elim) with h | h | h | h | h
    · exact .inl (by rw [hza]; omega)
    · exact .inr h
    · have := hxf k h; omega
    · exact .inl (by rw [hza]; omega)
    · exact .inl (by rw [hza]; omega)
  · rcases hall k hk with h | h | h | h | h
    · omega
    · have := hjl k h; omega
    · have := hxf k h; omega
    · omega
    · omega
  · have Ka : Kept y.foot w w1 := (Kept.of_below ba y.foot).trans K
    have h1 := ba.size
    have K4' : Kept y.foot w (w3.setCell ⟨N + 2, 3, none⟩ (.pointer (some ⟨x.M, 0, none⟩))) :=
      ⟨K4.os.trans Ka.os, K4.tape.trans Ka.tape, K4.output.trans Ka.output, Nat.le_trans Ka.size K4.size, fun k hk hf' => (K4.block k (by omega) (by omega)).trans (Ka.block k hk hf')⟩
    exact K4'
  · rcases hall i hi with h | h | h | h | h
    · exact .inr (by omega)
    · rcases hjl i h with h' | h'
      · rcases hf i h with h2 | h2
        · exact .inl h2
        · rw [hza] at h2; omega
      · exact .inr (by omega)
    · have := hxf i h; exact .inr (by omega)
    · exact .inr (by omega)
    · exact .inr (by omega)
/-- Turn of a store's log, as one call. -/
theorem sturn_calls (σ : StoL) (s : SP) (ks : List RecR) (A : Option Addr) (cap : Nat) (w : World) (base : Nat) (h : StoOK w base σ s) (hG : Glob w base) (hR : RV w A (rC ks)) (hx : ∀ x ∈ ks, RecOK w (fun _ => False) x ∧ x.body.length ≤ 109) (hl : ks.length ≤ 60) (hp : s.p.half = 64) (he : s.p.e < 1000000) (hw : s.d.wait.length ≤ 60000) :
    Calls Tryz.prog 35 #[.pointer (some ⟨σ.j.G, 0, none⟩), .slice A ks.length cap] w fun e w' => e = .returned (.int .i64 0) ∧ NextS w base σ { s with p := s.p.turned (ks.map RecR.abs), d := turnD s.d s.p.o s.p.half (s.p.e + 1) (ks.map RecR.abs) } w' ∧ w'.cell? ⟨σ.B, 2, none⟩ = some (.pointer (some ⟨σ.j.G, 0, none⟩)) := by
  have hwl := h.wl
  have hsm : ∀ r ∈ ks.map RecR.abs, r.body.length ≤ 109 := fun r hr => by
    obtain ⟨x, hxm, rfl⟩ := List.mem_map.1 hr
    exact (hx x hxm).2
  have hE : turnE 128 s.p (ks.map RecR.abs) = 0 := by
    unfold turnE
    have hlb : longB (ks.map RecR.abs) = false := by
      unfold longB
      rw [List.any_eq_false]
      intro r hr
      have := hsm r hr
      simp
      omega
    rw [hlb, if_neg (by decide), sum_small _ hsm, List.length_map, hp, if_neg (by omega)]
  have hsz := h.sz
  have TC := jTurn_calls σ.j s.p ks A cap w base h.lg he hR (fun x hxm => (hx x hxm).1) (by omega) hG.tab h.base_le hG.steps (by omega)
  rw [hsz, hE, h.dk] at TC
  unfold PJ.turnS turnDS at TC
  rw [if_pos hE, if_pos hE] at TC
  refine TC.mono ?_
  rintro e w' ⟨rfl, N⟩
  refine ⟨rfl, h.log N, ?_⟩
  obtain ⟨_, _, _, _, _, n6, _⟩ := N
  have bx : Blk w' σ.B 99 (σ.cells s.epoch s.puts) := (n6.block _ h.bx.lt (h.apart (p := .box) (q := .log) (by decide) σ.B rfl)).trans h.bx
  exact bx.at_ (i := 2) rfl
end Go.Proofs.YtendnkklbeiegaaGreatDoor
namespace Go.Proofs.YtendnkklbeiegaaGreatDoor
open Go.RowKit Go.Maps StoreP JourP DiskP PageP

/-- What Open tells of a disk on which the log of some acts lies. -/
def RetStore (by_ : Nm → List UInt8) (w : World) (base : Nat) (y : Lay) (U E : Nat) (fd : Bool) (l : List StoreP.Act) (lasts : Nat) (e : Ending) (w' : World) : Prop :=
  ∃ (σ : StoL) (s : SP) (k : Nat), e = .returned (.tuple #[.pointer (some ⟨σ.B, 0, none⟩), .int .i64 0]) ∧ StoOK w' base σ s ∧ OpenedP by_ l y.abs U E k s ∧ (fd = true → lasts ≤ k) ∧ k ≤ l.length ∧ (fd = false → k = 0) ∧ σ.j.y.D = y.D ∧ Kept y.foot w w' ∧ ∀ i, σ.all i → y.foot i ∨ w.heap.size ≤ i
set_option maxRecDepth 100000 in
set_option maxHeartbeats 3200000 in
theorem sopen_calls (by_ : Nm → List UInt8) (y : Lay) (U E : Nat) (fd : Bool) (l : List StoreP.Act) (lasts : Nat) (w : World) (base : Nat) (hd : DiskOK w base y) (hz : y.size = 128) (hll : y.lp.length = 512) (hG : Glob w base) (hb : base ≤ w.heap.size) (hU : U ≤ 1) (hE : E ≤ 1000) (hok : ∀ a ∈ l, a.ok) (hl : l.length ≤ 40)
    (h511 : ∀ n x, StoreP.Act.put n x ∈ l → x.at_ < 511) (hB : Behind by_ l y.abs) (hO : ∀ k, Base y.abs (0 + (1 - U) * 64) (0 + U * 64) 64 (E + 1) ((l.map StoreP.Act.toRec).take k))
    (JO : ∀ w1, Below w.heap.size w w1 → Calls Tryz.prog 29 #[.pointer (some ⟨y.D, 0, none⟩), .int .i64 0, .int .i64 128] w1 (RetOpen w1 base y 0 64 U E fd (l.map StoreP.Act.toRec) lasts)) :
    Calls Tryz.prog 9 #[.pointer (some ⟨y.D, 0, none⟩)] w (RetStore by_ w base y U E fd l lasts) := by
  have SC := size_calls y w base hd
  rw [hll, hz] at SC
  have e201 : need 128 201 = 2 := by decide
  have e0 : need 128 0 = 1 := by decide
  have hmm := @run_makeMap Tryz.prog
  go_enter Tryz.func9, Tryz.ntmps9
  go_wp2_with fail
  refine SC.mono ?_
  clear SC
  rintro _ w0 ⟨rfl, q, rfl⟩
  have b0 := drewN_below w q
  rw [show ((512 : Nat) : Int) = 512 from rfl, show ((128 : Nat) : Int) = 128 from rfl]
  go_upto_region 6 with (go_at_call 28; (with_reducible refine (pneed_calls _ _ _).mono ?_); rintro e w1 ⟨rfl, rfl⟩)
  clear e201 e0
  obtain ⟨N, hN⟩ : ∃ N, N = w.heap.size := ⟨_, rfl⟩
  have hz0 : (w.drewN q).heap.size = N := hN.symm
  revert b0 hz0
  generalize w.drewN q = w0
  intro b0 hz0
  have hz1 : (w0.alloc (.map #[] 0)).heap.size = N + 1 := by rw [World.size_alloc, hz0]
  have hz2 : ((w0.alloc (.map #[] 0)).alloc (.map #[] 0)).heap.size = N + 2 := by rw [World.size_alloc, hz1]
  have HN := Lib.hid hN
  have ba : Below w.heap.size w (((w0.alloc (.map #[] 0)).alloc (.map #[] 0)).alloc (.cells (storeC y.D (.pointer none) (.pointer none) N) 99)) := ((b0.alloc (by omega) _).alloc (by omega) _).alloc (by omega) _
  have bxa : Blk (((w0.alloc (.map #[] 0)).alloc (.map #[] 0)).alloc (.cells (storeC y.D (.pointer none) (.pointer none) N) 99)) (N + 2) 99 (storeC y.D (.pointer none) (.pointer none) N) := by
    have := Blk.new ((w0.alloc (.map #[] 0)).alloc (.map #[] 0)) 99 (storeC y.D (.pointer none) (.pointer none) N)
    rw [hz2] at this
    exact this
  have m1a : MapV (((w0.alloc (.map #[] 0)).alloc (.map #[] 0)).alloc (.cells (storeC y.D (.pointer none) (.pointer none) N) 99)) 2 N 0 (fun _ => none) := by
    have := ((MapV.made w0 2).alloc (.map #[] 0)).alloc (.cells (storeC y.D (.pointer none) (.pointer none) N) 99)
    rw [hz0] at this
    exact this
  have m2a : MapV (((w0.alloc (.map #[] 0)).alloc (.map #[] 0)).alloc (.cells (storeC y.D (.pointer none) (.pointer none) N) 99)) 40 (N + 1) 0 (fun _ => none) := by
    have := (MapV.made (w0.alloc (.map #[] 0)) 40).alloc (.cells (storeC y.D (.pointer none) (.pointer none) N) 99)
    rw [hz1] at this
    exact this
  have hza : (((w0.alloc (.map #[] 0)).alloc (.map #[] 0)).alloc (.cells (storeC y.D (.pointer none) (.pointer none) N) 99)).heap.size = N + 3 := by rw [World.size_alloc, hz2]
  have J1 := JO _ ba
  have XC := fun w' => xNew_calls 128 512 w' (by decide) (by decide)
  rw [show ((128 : Nat) : Int) = 128 from rfl, show ((512 - 128 : Nat) : Int) = 384 from rfl] at XC
  clear hN JO
  go_wp2_with fail
  revert ba bxa m1a m2a hza J1
  unfold storeC
  generalize ((w0.alloc (.map #[] 0)).alloc (.map #[] 0)).alloc (.cells #[.pointer (some ⟨y.D, 0, none⟩), .int .i64 128, .pointer none, .pointer none, .map (some N), .map (some (N + 1)), .slice none 0 0, .int .i64 0, .int .i64 0] 99) = wa
  intro ba bxa m1a m2a hza J1
  clear b0 hz0 hz1 hz2 hmm
  (with_reducible refine J1.mono ?_)
  clear J1
  rintro _ w1 ⟨j, k, rfl, lg, hk1, hk2, hk3, hD, ⟨hsz, hln⟩, hwt, hab, K, hf, hbo⟩
  have nyN : ¬ y.foot (N + 2) := fun q => by have := (hd.foot_lt q).2; have := HN.out; omega
  have bx1 : Blk w1 (N + 2) 99 #[.pointer (some ⟨y.D, 0, none⟩), .int .i64 128, .pointer none, .pointer none, .map (some N), .map (some (N + 1)), .slice none 0 0, .int .i64 0, .int .i64 0] := (K.block _ (by omega) nyN).trans bxa
  have z2 := bx1.frozen 2
  have y2 := bx1.at_ (i := 2) rfl
  have HS : Hid (∀ (x : XMap) (w3 : World), ExtOK w3 (w1.setCell ⟨N + 2, 2, none⟩ (.pointer (some ⟨j.G, 0, none⟩))).heap.size 128 512 x (fun s => 128 ≤ s ∧ s < 512) → Below (w1.setCell ⟨N + 2, 2, none⟩ (.pointer (some ⟨j.G, 0, none⟩))).heap.size (w1.setCell ⟨N + 2, 2, none⟩ (.pointer (some ⟨j.G, 0, none⟩))) w3 →
      Blk w3 (N + 2) 99 (storeC y.D (.pointer (some ⟨j.G, 0, none⟩)) (.pointer none) N) ∧ StoOK (w3.setCell ⟨N + 2, 3, none⟩ (.pointer (some ⟨x.M, 0, none⟩))) base (startL N j x) (startS ⟨0, 64, 1 - U, E + 1, (l.map StoreP.Act.toRec).take k, ((l.map StoreP.Act.toRec).take k).length⟩ j.y.abs) ∧ Kept y.foot w (w3.setCell ⟨N + 2, 3, none⟩ (.pointer (some ⟨x.M, 0, none⟩))) ∧ ∀ i, (startL N j x).all i → y.foot i ∨ w.heap.size ≤ i) :=
    fun x w3 ex b3 => (open_start hd HN.out hza ba bxa m1a m2a hb lg hD ⟨hsz.trans hz, hln.trans hll⟩ K hf hbo ex b3).2
  have HJ := Lib.hid (And.intro hab (And.intro hwt (And.intro hD (And.intro hk1 (And.intro hk2 hk3)))))
  clear bx1 bxa m1a m2a K hf hbo lg hsz hln hab hwt hD hk1 hk2 hk3 ba
  go_upto_region 14 with (go_at_call 30; (with_reducible refine (XC _).mono ?_); rintro e w3 ⟨x, rfl, ex, b3⟩; have HX := Lib.hid (HS.out x w3 ex b3); have z3 := HX.out.1.frozen 3; have y3 : w3.cell? ⟨N + 2, 3, none⟩ = some (.pointer none) := HX.out.1.at_ rfl; clear ex b3)
  obtain ⟨_, h4, K4, f4⟩ := HX.out
  clear HX HS z2 z3 XC y2 y3
  revert h4 K4
  generalize w3.setCell ⟨N + 2, 3, none⟩ (.pointer (some ⟨x.M, 0, none⟩)) = w4
  intro h4 K4
  have c2 : w4.cell? ⟨N + 2, 2, none⟩ = some (.pointer (some ⟨j.G, 0, none⟩)) := h4.bx.at_ (i := 2) rfl
  have AC := jall_calls j _ w4 base h4.lg
  obtain ⟨l', hl'⟩ : ∃ l', l' = l.take k := ⟨_, rfl⟩
  have hrs : j.rs.map RecR.abs = l'.map StoreP.Act.toRec := (show j.rs.map RecR.abs = (l.map StoreP.Act.toRec).take k from h4.lg.frs).trans (by rw [hl']; exact List.map_take.symm)
  have hok' : ∀ a ∈ l', a.ok := fun a ha => hok a (by rw [hl'] at ha; exact List.mem_of_mem_take ha)
  have hl40 : l'.length ≤ 40 := by rw [hl', List.length_take]; omega
  have hsub : ∀ a ∈ l', a ∈ l := fun a ha => by rw [hl'] at ha; exact List.mem_of_mem_take ha
  go_wp2_with (go_at_call 31; (with_reducible refine AC.mono ?_); rintro e w5 ⟨v5, rs5, rfl, hrl, hra, row5, B5⟩; clear hrl; obtain ⟨A5, c5, rfl, _, _⟩ := own_form row5.own)
  have hG4 : Glob w4 base := hG.below (K4.below (fun k _ hk => (hd.foot_lt hk).1) hb)
  have hG5 : Glob w5 base := hG4.bel B5 h4.base_le
  have hJ4 := h4.lg.inv
  have Hlen : Hid (rs5.length = l'.length) := by show _ = _; have := congrArg List.length (hra.trans hrs); simpa using this
  have rrow : RVF w5 (startL N j x).all A5 (rC rs5) := rvf_ofk row5.own fun k hk => .inl (h4.all_lt hk)
  have hbody : ∀ z ∈ rs5, RecOK w5 (startL N j x).all z := fun z hz => (row5.ks z hz).mono fun k _ hk => .inr (h4.all_lt hk)
  have h5 := h4.below B5
  obtain ⟨p0, hp0⟩ : ∃ p : PJ, p = ⟨0, 64, 1 - U, E + 1, (l.map StoreP.Act.toRec).take k, ((l.map StoreP.Act.toRec).take k).length⟩ := ⟨_, rfl⟩
  rw [← hp0] at h5 hJ4
  have hjy : (startL N j x).j.y.D = y.D := HJ.out.2.2.1
  have eB0 : (startL N j x).B = N + 2 := rfl
  obtain ⟨D1, hD1⟩ : ∃ D, D = j.y.abs := ⟨_, rfl⟩
  have hJ1 : Inv D1 p0.b p0.o p0.half p0.e p0.rs p0.lasts := by rw [hD1]; exact hJ4
  rw [← hD1] at h5 HJ
  have N5 : NextS w5 base (startL N j x) (heedS (startS p0 D1) l' 0) w5 := h5.same_below (Below.refl _ _)
  have K5 : Kept y.foot w w5 := K4.trans (Kept.of_below B5 _)
  have hw5 : w.heap.size ≤ w5.heap.size := K5.size
  have HRA := Lib.hid (hra.trans hrs)
  clear row5 hJ4 hG4 h4 K4 B5 AC c2 hra hrs hG hza
  obtain ⟨σ0, hσ0⟩ : ∃ σ0, σ0 = startL N j x := ⟨_, rfl⟩
  rw [← hσ0] at h5 rrow hbody N5 eB0 hjy f4
  clear hσ0
  have HB0 := Lib.hid (And.intro eB0 (And.intro hjy f4))
  clear eB0 hjy f4
  have HP0 := Lib.hid hp0
  have HD1 := Lib.hid hD1
  have HL' := Lib.hid hl'
  clear hp0 hD1 hl'
  go_loopw [84] (fun i wr => ∃ m : Nat, m ≤ rs5.length ∧ i = .int .i64 (m : Int) ∧ NextS w5 base σ0 (heedS (startS p0 D1) l' m) wr) (fun i _ => rs5.length - (intOf i).toNat)
  case atStart => exact ⟨0, Nat.zero_le _, rfl, N5⟩
  case round =>
    clear N5
    obtain ⟨m, hm, rfl, σr, hr, e1, e2, k5, f5⟩ := hrel
    have hGr : Glob wr base := hG5.below (k5.below (fun k _ hk => h5.lo k hk) h5.base_le)
    by_cases hlt : m < rs5.length
    · have dec : decide ((m : Int) < (rs5.length : Int)) = true := decide_eq_true (by omega)
      have dec' : decide (m < rs5.length) = true := decide_eq_true hlt
      have hq : (m : Int) < (rs5.length : Int) := by omega
      obtain ⟨r, hrm⟩ : ∃ r, rs5[m]? = some r := ⟨_, List.getElem?_eq_getElem hlt⟩
      obtain ⟨a, ham⟩ : ∃ a, l'[m]? = some a := ⟨_, List.getElem?_eq_getElem (by have := Hlen.out; omega)⟩
      have hra' : r.abs = a.toRec := by
        have h1 := congrArg (fun l => l[m]?) HRA.out
        simp only [List.getElem?_map, hrm, ham, Option.map_some] at h1
        exact Option.some.inj h1
      obtain ⟨g, off, rfl, hg, x0, x1⟩ := rec_elem (rrow.kept k5).rv hrm
      have hrb := (hbody r (List.mem_of_getElem? hrm)).kept k5 fun _ h => h
      have haok := hok' a (List.mem_of_getElem? ham)
      obtain ⟨rk, rA, rc, rb⟩ := r
      simp only at x0 x1
      have B6 : Below wr.heap.size wr (wr.alloc (.cells #[.int .u8 (rk.toNat : Int), .slice rA rb.length rc] 107)) := (Below.refl _ _).alloc (Nat.le_refl _) _
      have HC := heed_calls σr (heedS (startS p0 D1) l' m) a haok ⟨rk, rA, rc, rb⟩ hra' (wr.alloc (.cells #[.int .u8 (rk.toNat : Int), .slice rA rb.length rc] 107)) base (hr.below B6) (hGr.bel B6 hr.base_le) ((hrb.below B6).mono fun _ _ q => q.elim) (by show m ≤ 1000; have := Hlen.out; omega)
      rw [e1, HB0.out.1] at HC
      have HF : Hid (∀ w7, NextS (wr.alloc (.cells #[.int .u8 (rk.toNat : Int), .slice rA rb.length rc] 107)) base σr { heedS (startS p0 D1) l' m with st := (heedS (startS p0 D1) l' m).st.heed a, many := (heedS (startS p0 D1) l' m).many + 1 } w7 → NextS w5 base σ0 (heedS (startS p0 D1) l' (m + 1)) w7) := fun w7 n7 => by
        rw [heedS_succ (startS p0 D1) ham]
        exact NextS.from_ e1 e2 k5 f5 (NextS.after B6 n7)
      have Hlt := Lib.hid hlt
      have hm40 : m < 40 := by have := Hlen.out; omega
      clear hr e1 e2 k5 f5 hGr hrm ham hra' hrb haok B6 rrow hbody h5 hG5 hlt
      go_wp2_with (go_at_call 32; (with_reducible refine HC.mono ?_); rintro e w7 ⟨rfl, n7⟩; have N7 := Lib.hid (HF.out w7 n7); clear n7)
      go_roundw
      case rel => exact ⟨m + 1, by have := Hlt.out; omega, by go_num, N7.out⟩
      case measure => have := Hlt.out; simp [intOf]; omega
    · have dec : decide ((m : Int) < (rs5.length : Int)) = false := decide_eq_false (by omega)
      have dec' : decide (m < rs5.length) = false := decide_eq_false hlt
      obtain rfl : m = l'.length := by have := Hlen.out; omega
      have hf1 : (heedS (startS p0 D1) l' l'.length).st.sl = (run l').sl := by show (run (l'.take l'.length)).sl = _; rw [List.take_length]
      have hokN : ∀ n, ((heedS (startS p0 D1) l' l'.length).st.sl n).isSome = true → okN n := fun n hn => by
        obtain ⟨x, hx⟩ := Option.isSome_iff_exists.1 hn
        rw [hf1] at hx
        exact (hok' _ (run_put hx)).1
      have NM := names_calls σr (heedS (startS p0 D1) l' l'.length) wr base hr hokN (by show l'.length ≤ 1000; omega)
      rw [e1, HB0.out.1, hf1] at NM
      have HK5 := Lib.hid (And.intro e1 (And.intro e2 (And.intro k5 f5)))
      clear e1 e2 k5 f5 rrow hbody hlt hokN
      go_wp2_with (go_at_call 13; (with_reducible refine NM.mono ?_); rintro e w7 ⟨A7, c7, ss, rfl, hL, _, hssl, own7, B7⟩)
      have rn : RVF w7 σr.all A7 (eC ss) := rvf_ofk own7 fun k hk => .inl (hr.all_lt hk)
      have hss40 : ss.length ≤ 40 := by
        have h1 := hr.cnt
        have h2 : (heedS (startS p0 D1) l' l'.length).many = l'.length := rfl
        omega
      have hr7 := hr.below B7
      have hG7 : Glob w7 base := hGr.bel B7 hr.base_le
      obtain ⟨s1, hs1⟩ : ∃ s1, s1 = heedS (startS p0 D1) l' l'.length := ⟨_, rfl⟩
      have hsd : s1.d = D1 := by rw [hs1]; rfl
      have hsp : s1.p = p0 := by rw [hs1]; rfl
      have hsm : s1.many = l'.length := by rw [hs1]; rfl
      have hsf : s1.fr = fun s => 128 ≤ s ∧ s < 512 := by rw [hs1]; rfl
      rw [← hs1] at hr7 hf1
      have N7 : NextS w7 base σr (nameS s1 D1 (run l').sl ss 0) w7 := by rw [nameS_zero ss hf1 hsf]; exact hr7.same_below (Below.refl _ _)
      have HS1 := Lib.hid hs1
      have HN7 : Hid (∀ s' w', NextS w7 base σr s' w' → NextS w5 base σ0 s' w') := fun s' w' n => NextS.from_ HK5.out.1 HK5.out.2.1 HK5.out.2.2.1 HK5.out.2.2.2 (NextS.after B7 n)
      have hBr : σr.B = N + 2 := HK5.out.1.trans HB0.out.1
      have hput : ∀ n x, (run l').sl n = some x → StoreP.Act.put n x ∈ l := fun n x hx => hsub _ (run_put hx)
      have hB1 : Behind by_ l D1 := by
        rw [HJ.out.1]
        exact hB.turn (hO k) (by rcases (show U = 0 ∨ U = 1 by omega) with rfl | rfl <;> decide)
      clear hr hGr own7 B7 NM hs1 dec dec' hf1 h5 hG5
      have HBr := Lib.hid hBr
      have Hsd := Lib.hid (And.intro hsd (And.intro hsp hsm))
      clear hBr hsd hsp hsf
      go_loopw [95] (fun i wr => ∃ m : Nat, m ≤ ss.length ∧ i = .int .i64 (m : Int) ∧ NextS w7 base σr (nameS s1 D1 (run l').sl ss m) wr) (fun i _ => ss.length - (intOf i).toNat)
      case atStart => exact ⟨0, Nat.zero_le _, rfl, N7⟩
      case round =>
        clear N7
        obtain ⟨m, hm, rfl, σq, hq, e1, e2, k7, f7⟩ := hrel
        have hGq : Glob wr base := hG7.below (k7.below (fun k _ hk => hr7.lo k hk) hr7.base_le)
        have eBq : σq.B = N + 2 := e1.trans HBr.out
        by_cases hlt : m < ss.length
        · have dec : decide ((m : Int) < (ss.length : Int)) = true := decide_eq_true (by omega)
          have dec' : decide (m < ss.length) = true := decide_eq_true hlt
          have hqi : (m : Int) < (ss.length : Int) := by omega
          obtain ⟨n, hn⟩ : ∃ n, ss[m]? = some n := ⟨_, List.getElem?_eq_getElem hlt⟩
          obtain ⟨x, hx⟩ := Option.isSome_iff_exists.1 ((hL.2 n).1 (List.mem_of_getElem? hn))
          have hxl := hput n x hx
          obtain ⟨hokn, hx1, hx2, hx3, hx4, hx5⟩ := hok' _ (run_put hx)
          have hxs : (nameS s1 D1 (run l').sl ss m).st.sl n = some x := (slD_at (take_new hL.1 hn)).trans hx
          obtain ⟨g, off, rfl, hg, y0, y1⟩ := ex_elem (rn.kept k7).rv hn
          have xk := Blk.new wr 40 #[.int .i64 (n.1 : Int), .int .i64 (n.2 : Int)]
          have B8 : Below wr.heap.size wr (wr.alloc (.cells #[.int .i64 (n.1 : Int), .int .i64 (n.2 : Int)] 40)) := (Below.refl _ _).alloc (Nat.le_refl _) _
          have s8 : (wr.alloc (.cells #[.int .i64 (n.1 : Int), .int .i64 (n.2 : Int)] 40)).heap.size = wr.heap.size + 1 := by simp
          have HKq := Lib.hid (And.intro e1 (And.intro e2 (And.intro k7 f7)))
          have HM := Lib.hid (And.intro hn (And.intro hx (And.intro hxs (And.intro hxl hokn))))
          have Hlt := Lib.hid hlt
          clear e1 e2 k7 f7 hn hx hxs hlt
          go_upto_region 22 with fail
          clear y0 y1 dec dec' hqi
          revert xk B8 s8
          generalize wr.alloc (.cells #[.int .i64 (n.1 : Int), .int .i64 (n.2 : Int)] 40) = w8
          intro xk B8 s8
          obtain ⟨hn, hx, hxs, hxl, hokn⟩ := HM.out
          have h8 := hq.below B8
          have hG8 : Glob w8 base := hGq.bel B8 hq.base_le
          have HS : Hid (∀ W', Below w8.heap.size w8 W' → (W'.cell? ⟨N + 2, 5, none⟩ = some (.map (some σq.M)) ∧ W'.cell? ⟨wr.heap.size, 0, none⟩ = some (.int .i64 (n.1 : Int)) ∧ W'.cell? ⟨wr.heap.size, 1, none⟩ = some (.int .i64 (n.2 : Int)) ∧ (Instr.lookup 95 (.map (some σq.M)) (.agg #[.int .i64 (n.1 : Int), .int .i64 (n.2 : Int)]) false).run Tryz.prog W' = .ok (.agg #[.int .i64 (x.at_ : Int), .int .i64 1, .int .i64 (x.len : Int), .int .i64 (x.mark : Int)]) W')) := fun W' b => by
            have h9 := h8.below b
            have c5 := h9.bx.at_ (i := 5) (v := .map (some σq.M)) rfl
            rw [eBq] at c5
            exact ⟨c5, cell_bel b (xk.at_ (i := 0) rfl), cell_bel b (xk.at_ (i := 1) rfl), sl_look h9 hokn hxs⟩
          have Hq := Lib.hid (And.intro h8 (And.intro hG8 (And.intro B8 eBq)))
          clear hq hGq h8 hG8 B8 eBq hxs hokn hxl hn hx
          go_cut [14] from 99 to 104 (fun v wx => ∃ b, v = .pointer (some ⟨b, 0, none⟩) ∧ Below w8.heap.size w8 wx ∧ w8.heap.size ≤ b ∧ Blk wx b 112 #[.int .i64 (x.at_ : Int), .int .i64 1, .int .i64 (x.len : Int), .int .i64 (x.mark : Int)])
          case first =>
            go_region_held (fun wq => wq.cell? ⟨N + 2, 5, none⟩ = some (.map (some σq.M)) ∧ wq.cell? ⟨wr.heap.size, 0, none⟩ = some (.int .i64 (n.1 : Int)) ∧ wq.cell? ⟨wr.heap.size, 1, none⟩ = some (.int .i64 (n.2 : Int)) ∧ (Instr.lookup 95 (.map (some σq.M)) (.agg #[.int .i64 (n.1 : Int), .int .i64 (n.2 : Int)]) false).run Tryz.prog wq = .ok (.agg #[.int .i64 (x.at_ : Int), .int .i64 1, .int .i64 (x.len : Int), .int .i64 (x.mark : Int)]) wq)
              (exact HS.out _ (by repeat' (first | exact Below.refl _ _ | refine Below.drew ?_ | refine Below.alloc ?_ (by first | (simp; done) | (simp; omega)) _ | refine Below.setCell ?_ (by first | (simp; done) | (simp; omega)) _))) (fail)
            all_goals
              go_wp2_with fail
              go_meet
              exact ⟨_, rfl, ((Below.refl _ w8).alloc (Nat.le_refl _) _).drew, by omega, by
                have := Blk.new w8 112 #[.int .i64 (x.at_ : Int), .int .i64 1, .int .i64 (x.len : Int), .int .i64 (x.mark : Int)]
                rw [s8] at this
                exact this⟩
          case rest =>
            obtain ⟨b, rfl, B9, hb9, bk9⟩ := hcut
            obtain ⟨h8, hG8, B8, eBq⟩ := Hq.out
            obtain ⟨hn, hx, hxs, hxl, hokn⟩ := HM.out
            have h9 := h8.below B9
            have hG9 : Glob wc base := hG8.bel B9 h8.base_le
            have hd9 : (nameS s1 D1 (run l').sl ss m).d = D1 := Hsd.out.1
            have TC := tells_calls σq (nameS s1 D1 (run l').sl ss m) x wc base h9 hG9.tab (by rw [hd9]; exact hB1.no_down _)
            rw [hd9, eBq] at TC
            unfold slotV at TC
            have b0 := bk9.at_ (i := 0) rfl
            have b1 := bk9.at_ (i := 1) rfl
            have b2 := bk9.at_ (i := 2) rfl
            have b3 := bk9.at_ (i := 3) rfl
            by_cases ho : okB D1 x
            · have TC1 : Calls Tryz.prog 33 #[.pointer (some ⟨N + 2, 0, none⟩), .agg #[.int .i64 (x.at_ : Int), .int .i64 1, .int .i64 (x.len : Int), .int .i64 (x.mark : Int)]] wc fun e w' => (∃ A n c, e = .returned (.tuple #[.slice A n c, .int .i64 0])) ∧ Below wc.heap.size wc w' := TC.mono (by
                rintro e w' ⟨q, ⟨_, A, c, rfl, _⟩ | ⟨hno, _⟩⟩
                · exact ⟨⟨A, _, c, rfl⟩, q⟩
                · exact absurd ho hno)
              have hfr : frD D1 (run l').sl (ss.take m) x.at_ := hB1.frD_free hput (take_new hL.1 hn) hx ho
              have h511' : ∃ s', frD D1 (run l').sl (ss.take m) s' ∧ x.at_ < s' := ⟨511, frD_last (fun n' y hy => h511 n' y (hput n' y hy)) _, h511 n x hxl⟩
              have CC : Hid (∀ W', Below wc.heap.size wc W' → (W'.cell? ⟨N + 2, 3, none⟩ = some (.pointer (some ⟨σq.x.M, 0, none⟩)) ∧ W'.cell? ⟨b, 0, none⟩ = some (.int .i64 (x.at_ : Int)) ∧ W'.cell? ⟨b, 1, none⟩ = some (.int .i64 1)) ∧ Calls Tryz.prog 34 #[.pointer (some ⟨σq.x.M, 0, none⟩), .agg #[.int .i64 (x.at_ : Int), .int .i64 1]] W' fun e w' => e = .returned (.int .i64 0) ∧ (w'.cell? ⟨N + 2, 3, none⟩ = some (.pointer (some ⟨σq.x.M, 0, none⟩)) ∧ w'.cell? ⟨b, 0, none⟩ = some (.int .i64 (x.at_ : Int)) ∧ w'.cell? ⟨b, 1, none⟩ = some (.int .i64 1)) ∧ NextS w7 base σr (nameS s1 D1 (run l').sl ss (m + 1)) w') := fun W' q => by
                have hW := h9.below q
                have cx : W'.cell? ⟨N + 2, 3, none⟩ = some (.pointer (some ⟨σq.x.M, 0, none⟩)) := by have := hW.bx.at_ (i := 3) (v := .pointer (some ⟨σq.x.M, 0, none⟩)) rfl; rw [eBq] at this; exact this
                have nb : ¬ σq.x.foot b := fun hk => by have := (h8.fr.foot_lt hk).2; omega
                have nB : ¬ σq.x.foot (N + 2) := by rw [← eBq]; exact hW.apart (p := .box) (q := .free) (by decide) σq.B rfl
                have bkW := bk9.below q bk9.lt
                refine ⟨⟨cx, bkW.at_ (i := 0) rfl, bkW.at_ (i := 1) rfl⟩, (xClaim_calls σq.x x.at_ 128 512 _ W' base hW.fr (by have := hfr.1; omega) hfr.2.1 hfr h511').mono ?_⟩
                rintro e w' ⟨rfl, N9⟩
                have k9 : Kept σq.x.foot W' w' := by obtain ⟨_, _, _, k, _⟩ := N9; exact k
                have bk' : Blk w' b 112 #[.int .i64 (x.at_ : Int), .int .i64 1, .int .i64 (x.len : Int), .int .i64 (x.mark : Int)] := (k9.block b bkW.lt nb).trans bkW
                refine ⟨rfl, ⟨cell_kept' cx k9 nB, bk'.at_ (i := 0) rfl, bk'.at_ (i := 1) rfl⟩, ?_⟩
                rw [nameS_ok s1 hL.1 hn hx ho]
                exact NextS.from_ HKq.out.1 HKq.out.2.1 HKq.out.2.2.1 HKq.out.2.2.2 (NextS.after (B8.trans ((B9.trans (q.mono B9.size)).mono B8.size)) (hW.free N9))
              clear TC h8 hG8 B8 eBq hn hx hxs hxl hokn h9 hG9 hd9 B9 bk9 hfr h511' ho
              go_upto_region 26 with (go_at_call 33; (with_reducible refine TC1.mono ?_); rintro e w9 ⟨⟨A9, n9, c9, rfl⟩, B9⟩)
              clear b0 b1 b2 b3 TC1
              have f1 := (CC.out w9 B9).1
              have f1d := (CC.out w9.drew B9.drew).1
              have CL := (CC.out w9.drew B9.drew).2
              clear CC B9
              obtain ⟨c3, b0c, b1c⟩ := f1
              clear f1d
              go_still_tail 9, (by kernel_rfl)
              change wpList _ _ _ _ _ w9.drew
              go_wp2_with (go_at_call 34; (with_reducible refine CL.mono ?_); rintro e w10 ⟨rfl, f10, N10z⟩; have N10 := Lib.hid N10z; clear N10z)
              all_goals
                go_roundw
                case rel => exact ⟨m + 1, by have := Hlt.out; omega, by go_num, N10.out⟩
                case measure => have := Hlt.out; simp [intOf]; omega
            · have TC1 : Calls Tryz.prog 33 #[.pointer (some ⟨N + 2, 0, none⟩), .agg #[.int .i64 (x.at_ : Int), .int .i64 1, .int .i64 (x.len : Int), .int .i64 (x.mark : Int)]] wc fun e w' => e = .returned (.tuple #[.slice none 0 0, .int .i64 8]) ∧ Below wc.heap.size wc w' := TC.mono (by
                rintro e w' ⟨q, ⟨hyes, _⟩ | ⟨_, rfl⟩⟩
                · exact absurd hyes ho
                · exact ⟨rfl, q⟩)
              obtain ⟨kl, hkl⟩ := keyOf_nm n hokn
              have hcq := h9.cnt
              have hns : Hid (∀ w2 w4, Below w8.heap.size w8 w2 → MapV w4 40 σq.M (if ((encS (nameS s1 D1 (run l').sl ss m).st.sl) (nmV n)).isSome = true then σq.mn - 1 else σq.mn) (setM (encS (nameS s1 D1 (run l').sl ss m).st.sl) (nmV n) none) → w2.grownBy w4 (some σq.M) → NextS w7 base σr (nameS s1 D1 (run l').sl ss (m + 1)) w4) := fun w2 w4 q hM3 gr3 => by
                have e4 : setM (encS (nameS s1 D1 (run l').sl ss m).st.sl) (nmV n) none = encS (upd (nameS s1 D1 (run l').sl ss m).st.sl n none) := encS_set _ n none
                rw [e4] at hM3
                have h2 := h8.below q
                have N4 := (h2.slices (f := upd (nameS s1 D1 (run l').sl ss m).st.sl n none) (many := (nameS s1 D1 (run l').sl ss m).many) (by split <;> omega) hM3 gr3)
                rw [nameS_no s1 hn hx ho]
                exact NextS.from_ HKq.out.1 HKq.out.2.1 HKq.out.2.2.1 HKq.out.2.2.2 (NextS.after (B8.trans (q.mono B8.size)) N4)
              have HQ2 : Hid (∀ W', Below wc.heap.size wc W' → (W'.cell? ⟨N + 2, 5, none⟩ = some (.map (some σq.M)) ∧ W'.cell? ⟨wr.heap.size, 0, none⟩ = some (.int .i64 (n.1 : Int)) ∧ W'.cell? ⟨wr.heap.size, 1, none⟩ = some (.int .i64 (n.2 : Int))) ∧ MapV W' 40 σq.M σq.mn (encS (nameS s1 D1 (run l').sl ss m).st.sl) ∧ Below w8.heap.size w8 W') := fun W' q => by
                have q8 := B9.trans (q.mono B9.size)
                obtain ⟨a1, a2, a3, _⟩ := HS.out W' q8
                exact ⟨⟨a1, a2, a3⟩, (h9.below q).sl, q8⟩
              clear TC h8 hG8 B8 eBq hn hx hxs hxl hokn h9 hG9 hd9 B9 bk9 ho hcq
              go_upto_region 26 with (go_at_call 33; (with_reducible refine TC1.mono ?_); rintro e w9 ⟨rfl, B9⟩)
              clear b0 b1 b2 b3 TC1
              go_cut [125] from 114 to 125 (fun v wx => v = .bool true ∧ Below w9.heap.size w9 wx)
              case first =>
                go_quiet (fail)
                go_wp2_with fail
                go_meet
                exact ⟨rfl, bel_drewN (Below.refl _ w9) _⟩
              case rest =>
                obtain ⟨rfl, B10⟩ := hcut
                obtain ⟨⟨c5, n0c, n1c⟩, hM, q8⟩ := HQ2.out _ (B9.trans (B10.mono B9.size))
                clear HQ2 B9 B10
                go_upto_region 27 with fail
                go_still_tail 5, (by kernel_rfl)
                change wpList _ _ _ _ _ wc.drew
                with_reducible refine wpList_delete_V rfl (.tmp 129) (.tmp 130) 95 40 112 rfl nmKeyed Tryz.underlying95 σq.M σq.mn (encS (nameS s1 D1 (run l').sl ss m).st.sl) (by kernel_rfl) hM.drew (nmV n) kl (by kernel_rfl) hkl ?_
                intro w4 hM3 gr3
                have N4 := Lib.hid (hns.out _ w4 q8.drew hM3 gr3)
                clear hM3 gr3 hM c5 n0c n1c q8 hns
                go_frame
                go_wp2_with fail
                go_roundw
                case rel => exact ⟨m + 1, by have := Hlt.out; omega, by go_num, N4.out⟩
                case measure => have := Hlt.out; simp [intOf]; omega
        · have dec : decide ((m : Int) < (ss.length : Int)) = false := decide_eq_false (by omega)
          have dec' : decide (m < ss.length) = false := decide_eq_false hlt
          obtain rfl : m = ss.length := by omega
          have hStB : StB (nameS s1 D1 (run l').sl ss ss.length).st := by
            have h0 : StB s1.st := by rw [HS1.out]; exact StB.run fun a ha => hok' a (List.mem_of_mem_take ha)
            refine h0.less fun n x h => ?_
            rw [HS1.out]
            show (run (l'.take l'.length)).sl n = some x
            rw [List.take_length]
            exact slD_sub n x h
          have hmany : (nameS s1 D1 (run l').sl ss ss.length).many = l'.length := Hsd.out.2.2
          have RC := records_calls σq (nameS s1 D1 (run l').sl ss ss.length) wr.drew base (hq.below (Below.refl _ wr).drew) (hGq.bel (Below.refl _ wr).drew hq.base_le) hStB (by rw [hmany]; omega)
          rw [eBq, hmany] at RC
          have cG : wr.cell? ⟨N + 2, 2, none⟩ = some (.pointer (some ⟨σq.j.G, 0, none⟩)) := by have := hq.bx.at_ (i := 2) (v := .pointer (some ⟨σq.j.G, 0, none⟩)) rfl; rw [eBq] at this; exact this
          have HS2 : Hid (∀ W', Below wr.heap.size wr W' → W'.cell? ⟨N + 2, 2, none⟩ = some (.pointer (some ⟨σq.j.G, 0, none⟩))) := fun W' b => cell_bel b cG
          have HTu : Hid (∀ (A : Option Addr) (c : Nat) (ks : List RecR) (w11 : World), Below wr.heap.size wr w11 → RV w11 A (rC ks) → (∀ x ∈ ks, RecOK w11 (fun _ => False) x ∧ x.body.length ≤ 109) → ks.length ≤ l'.length → Calls Tryz.prog 35 #[.pointer (some ⟨σq.j.G, 0, none⟩), .slice A ks.length c] w11 fun e w' => e = .returned (.int .i64 0) ∧ w'.cell? ⟨N + 2, 2, none⟩ = some (.pointer (some ⟨σq.j.G, 0, none⟩)) ∧ RetStore by_ w base y U E fd l lasts (.returned (.tuple #[.pointer (some ⟨N + 2, 0, none⟩), .int .i64 0])) w') := fun A c ks w11 b rv hks hkl => by
            have hsp : (nameS s1 D1 (run l').sl ss ss.length).p = p0 := Hsd.out.2.1
            have hsd : (nameS s1 D1 (run l').sl ss ss.length).d = D1 := Hsd.out.1
            have hk2 : k ≤ l.length := by have := HJ.out.2.2.2.2.1; simpa using this
            refine (sturn_calls σq (nameS s1 D1 (run l').sl ss ss.length) ks A c w11 base (hq.below b) (hGq.bel b hq.base_le) rv hks (by omega) (by rw [hsp, HP0.out]) (by rw [hsp, HP0.out]; show E + 1 < 1000000; omega) (by rw [hsd, HJ.out.2.1]; exact Nat.zero_le _)).mono ?_
            rintro e w' ⟨rfl, N12, c12⟩
            rw [eBq] at c12
            refine ⟨rfl, c12, ?_⟩
            obtain ⟨σz, hz', z1, z2, z3, z4⟩ := HN7.out _ _ (NextS.from_ e1 e2 k7 f7 (NextS.after b N12))
            refine ⟨σz, _, k, ?_, hz', ?_, HJ.out.2.2.2.1, hk2, HJ.out.2.2.2.2.2, z2.trans HB0.out.2.1, K5.far z3 HB0.out.2.2, fun i hi => ?_⟩
            · rw [z1, HB0.out.1]
            · have h3 := opened_of (ks := ks.map RecR.abs) (ss := ss) hB hU hE (hO k) HJ.out.1 HP0.out hJ1 (fun r hr => by
                obtain ⟨x, hx, rfl⟩ := List.mem_map.1 hr
                exact (hks x hx).2) (by rw [List.length_map]; have := HL'.out; have h9 : l'.length ≤ k := by rw [this, List.length_take]; omega
                                        omega) (by omega) (fun n => by have := hL.2 n; rw [HL'.out] at this; exact this)
              rw [HS1.out, HL'.out]
              exact h3
            · rcases z4 i hi with h | h
              · exact HB0.out.2.2 i h
              · exact .inr (Nat.le_trans hw5 h)
          have f1 := cG
          have f1d := HS2.out wr.drew (Below.refl _ wr).drew
          clear cG hq hGq e1 e2 k7 f7 eBq hStB hmany hlt rn hr7 hG7 hput hB1 hL
          go_upto_region 29 with fail
          go_region_law (go_simp; first | (go_at_call 36; (with_reducible refine RC.mono ?_); rintro e w11 ⟨A11, c11, ks, rfl, rv11, hks, hkl, B11z⟩; have B11 : Below wr.heap.size wr w11 := ⟨B11z.os, B11z.tape, B11z.output, B11z.size, B11z.block⟩; have f11 := HS2.out _ B11; have TC := HTu.out A11 c11 ks w11 B11 rv11 hks hkl) | (go_at_call 35; (with_reducible refine TC.mono ?_); rintro e w12 ⟨rfl, f12, hretz⟩; have hret := Lib.hid hretz; clear hretz))
          all_goals
            go_wp2_with fail
            go_ret2
            exact hret.out
end Go.Proofs.YtendnkklbeiegaaGreatDoor
namespace Go.Proofs.YtendnkklbeiegaaGreatDoor
open Go.RowKit Go.Maps StoreP JourP DiskP PageP

theorem fresh_behind {d : Dsk} (h : d = newD 512 128) : Behind byF [] d := by
  subst h
  refine ⟨rfl, rfl, List.length_replicate, fun s t _ ht => .inl (.inl ?_), fun _ _ h => (by cases h), fun _ _ h => (by cases h), fun _ _ _ _ h => (by cases h)⟩
  have hlt : s < 512 := by
    have := (List.getElem?_eq_some_iff.1 ht).1
    rw [told_len] at this
    have e : (newD 512 128).last.length = 512 := List.length_replicate
    omega
  rw [fresh_told hlt] at ht
  exact (Option.some.inj ht).symm
theorem fresh_keep {d0 : Dsk} (h0 : d0 = newD 512 128) {s : SP} (h : OpenedP byF [] d0 1 0 0 s) : KeepP 0 s [] 0 [] [] [] := by
  have hsl : ∀ n, s.st.sl n = none := fun n => by
    cases hx : s.st.sl n with
    | none => rfl
    | some x =>
      have := ((h.sl n x).1 hx).1
      simp [run, St.empty] at this
  have hst : s.st = St.empty := by
    have e1 := h.notes
    have e2 := h.marks
    have e3 : s.st.sl = St.empty.sl := by funext n; rw [hsl]; rfl
    rcases hs : s.st with ⟨a, b, c⟩
    rw [hs] at e1 e2 e3
    simp only at e1 e2 e3
    rw [e1, e2, e3]
    rfl
  have hb := h.behind
  have hw := h.wait
  have htl : s.d.told = s.d.last := by unfold Dsk.told; rw [hw]; rfl
  have hz : ∀ i t, 128 ≤ i → s.d.last[i]? = some t → t = zeroS 128 := fun i t hi ht => by
    have hlt : i < 512 := by have := (List.getElem?_eq_some_iff.1 ht).1; rw [hb.len] at this; exact this
    have e := h.told i hi
    rw [htl, ht, h0, fresh_told hlt] at e
    exact Option.some.inj e
  have hK : KInv byF s.d [] 0 0 s.fr := by
    refine ⟨⟨hb.off, hb.len, Nat.le_refl _, fun n x hx => ?_, fun i t hi ht => .inl (hz i t hi ht), fun p hp => ?_, fun n x hx => ?_, fun n x hx => (by cases hx), fun i _ n x _ _ hi => ?_, fun n x _ _ hx => ?_⟩, hb.size, fun _ _ hx => (by cases hx), fun i => ?_, fun _ hx => (by cases hx), fun _ _ hx => (by cases hx), by rw [hw]; exact Nat.le_refl _⟩
    · simp [run, St.empty] at hx
    · rw [hw] at hp; cases hp
    · simp at hx
    · simp at hi
    · simp [run, St.empty] at hx
    · rw [h.fr, hst]
      exact Iff.rfl
  obtain ⟨ks, hp, hkl⟩ := h.p
  have hks : ks = [] := List.length_eq_zero_iff.1 (by omega)
  subst hks
  exact KeepP.start s hst hp h.epoch h.puts (by have := h.many; omega) hK
/-- Open on a new disk. -/
theorem sopen_fresh (y : Lay) (w : World) (base : Nat) (hd : DiskOK w base y) (ha : y.abs = newD 512 128) (hln : y.lp.length = 512) (hs : y.size = 128) (hG : Glob w base) (hb : base ≤ w.heap.size) :
    Calls Tryz.prog 9 #[.pointer (some ⟨y.D, 0, none⟩)] w fun e w' => ∃ (σ : StoL) (s : SP), e = .returned (.tuple #[.pointer (some ⟨σ.B, 0, none⟩), .int .i64 0]) ∧ StoOK w' base σ s ∧ KeepP 0 s [] 0 [] [] [] ∧ σ.j.rs = [] ∧ σ.j.y.D = y.D ∧ Kept y.foot w w' ∧ ∀ i, σ.all i → y.foot i ∨ w.heap.size ≤ i := by
  have hq : goodP (512 : Int) (128 : Int) 0 128 := by unfold goodP; decide
  obtain ⟨o1, _⟩ := fresh_open (n := 512) (size := 128) (f := 0) (s := 128) (by decide) hq (by decide)
  have OC := sopen_calls byF y 1 0 false [] 0 w base hd hs hln hG hb (Nat.le_refl _) (by decide) (fun _ h => by cases h) (by decide) (fun _ _ h => by cases h) (fresh_behind ha) (fun k => by
    rw [ha]
    exact o1.base k) (fun w1 b => by
      have hb1 := b.size
      exact jopen_fresh y 0 128 512 128 w1 base (hd.below b) ha hln hs hq (hG.tab.below b) (by omega) hG.steps)
  refine OC.mono ?_
  rintro e w' ⟨σ, s, k, rfl, h1, h2, _, _, hk, h3, h4, h5⟩
  obtain rfl := hk rfl
  have hK := fresh_keep ha h2
  refine ⟨σ, s, rfl, h1, hK, ?_, h3, h4, h5⟩
  have := h1.lg.frs
  rw [hK.p] at this
  exact List.map_eq_nil_iff.1 this
/-- Open behind a cut. -/
theorem sopen_cut {i lasts : Nat} {s : SP} {l : List StoreP.Act} {sl gone la : List Nm} (hK : KeepP i s l lasts sl gone la) (hi : i ≤ 40) (hJ : InvS s) (keep : List Bool) (torn : Int) (y : Lay) (w : World) (base : Nat) (hd : DiskOK w base y) (ha : y.abs = (s.d.cut keep torn).on) (hln : y.lp.length = 512) (hs : y.size = 128) (hG : Glob w base) (hb : base ≤ w.heap.size) :
    Calls Tryz.prog 9 #[.pointer (some ⟨y.D, 0, none⟩)] w (RetStore byF w base y 1 2 true l lasts) := by
  have hl := hK.len
  have hp := hK.puts
  have hq : goodP (512 : Int) (128 : Int) 0 128 := by unfold goodP; decide
  have D : Dam y.abs 64 0 64 2 (l.map StoreP.Act.toRec) lasts := by rw [ha]; exact (hK.inv hJ).cut keep torn
  have hwt : y.abs.wait = [] := by rw [ha]; exact (on_same s.d hK.k.s.off keep torn).2.2.2
  have hO : OpenP y.abs 0 64 1 2 true (l.map StoreP.Act.toRec) lasts := JourP.Dam.openP (f := 0) (u := 1) (h := 64) D (by decide) (by rw [hwt]; exact Nat.zero_le _)
  exact sopen_calls byF y 1 2 true l lasts w base hd hs hln hG hb (Nat.le_refl _) (by decide) hK.k.ok (by omega) (fun n x hx => (hK.put_in n x hx).2) (by rw [ha]; exact (hK.k.cut (by omega) (fun n => by have := byF_len n; omega) keep torn).1) hO.base (fun w1 b => by
    have hb1 := b.size
    exact jopen_dam y 0 128 1 2 (l.map StoreP.Act.toRec) lasts w1 base (hd.below b) (by rw [hln, hs]; exact hq) D (Nat.le_refl _) (by decide) (by rw [hwt]; exact Nat.zero_le _) (hG.tab.below b) (by omega) hG.steps)
end Go.Proofs.YtendnkklbeiegaaGreatDoor
