/-
  A slice's sector is written: the log stays; which one, and what is told.
-/
import Derived.Test.YtendnkklbeiegaaGreatDoorStoDrop
namespace Go.Proofs.YtendnkklbeiegaaGreatDoor
open Go.RowKit Go.Maps StoreP JourP DiskP PageP

/-- A write outside a log's halves. -/
theorem JLog.out {w w' : World} {base : Nat} {j : JL} {p : PJ} (h : JLog w base j p) (a : Nat) (kind : UInt8) (mark : Int) (bs : List UInt8) (k : Nat) (h1 : a + k ≤ p.b ∨ p.b + p.half ≤ a) (h2 : a + k ≤ p.o ∨ p.o + p.half ≤ a) (n : Next w base j.y (putD j.y.abs a kind mark bs k) w') : NextJ w base j p (putD j.y.abs a kind mark bs k) w' := by
  obtain ⟨y', e1, e2, h3, k3, f3⟩ := h.ok.disk n
  have hz : y'.size = j.y.size := by
    have e : y'.abs.size = y'.size := rfl
    rw [← e, e1]; rfl
  have hll : y'.lp.length = j.y.lp.length := Lay.last_len e1 rfl
  have kj : Kept j.foot w w' := k3.mono fun k _ hk => .inr (.inr hk)
  refine ⟨{ j with y := y' }, ⟨h3, ?_, h.u, h.ffrom, h.fhalf, ?_, h.fuse, h.fe, ?_, h.frs⟩, rfl, e2, ⟨hz, hll⟩, kj, fun k hk => ?_, fun X hX hx z hz => ?_, e1⟩
  · show Inv y'.abs _ _ _ _ _ _
    rw [e1]
    exact h.inv.out a kind mark bs k h1 h2
  · show j.size = (y'.size : Int)
    rw [hz]; exact h.fsize
  · show j.at_ = ((p.b + pos y'.size p.rs p.rs.length : Nat) : Int)
    rw [hz]; exact h.fat
  · rcases hk with hk | hk | hk
    · exact .inl (.inl hk)
    · exact .inl (.inr (.inl hk))
    · exact (f3 k hk).imp (fun q => .inr (.inr q)) id
  · exact RecOK.stay h.ok hz (hx z hz) kj
theorem put_one (d : Dsk) (ho : d.off = false) (hs : d.size = 128) (hl : d.last.length = 512) (a : Nat) (ha : a < 512) (mark : Int) (b : List UInt8) (hb : b.length ≤ 110) :
    putE d (a : Int) 83 b.length = 0 ∧ putN d (a : Int) 83 b.length = 1 ∧ putS d (a : Int) 83 mark b = putD d a 83 mark b 1 := by
  have hh : d.has (a : Int) = true := by
    unfold Dsk.has
    rw [hl]
    simp; omega
  have hn : need (d.size : Int) (b.length : Int) = 1 := by rw [hs]; exact need_one hb
  have hE : putE d (a : Int) 83 b.length = 0 := by
    unfold putE
    rw [hh, hn, hl, ho]
    rw [if_neg (by decide), if_neg (by omega)]
    rfl
  refine ⟨hE, ?_, ?_⟩
  · unfold putN; rw [if_pos hE, hn]
  · unfold putS; rw [if_pos hE, hn]; rfl
/-- Put on a store's disk, as one call. -/
theorem sput_calls (σ : StoL) (s : SP) (a : Nat) (mark : Nat) (b : List UInt8) (A : Option Addr) (cap : Nat) (w : World) (base : Nat) (h : StoOK w base σ s) (hG : Glob w base) (ha : 128 ≤ a) (ha2 : a < 512) (hp : s.p.b + s.p.half ≤ 128 ∧ s.p.o + s.p.half ≤ 128) (hR : RVF w σ.all A (cB b)) (hb : b.length ≤ 110) (hc : b.length ≤ cap) (hcap : cap ≤ 9223372036854775807) (hw : s.d.wait.length ≤ 60000) :
    Calls Tryz.prog 66 #[.pointer (some ⟨σ.j.y.D, 0, none⟩), .int .i64 (a : Int), .int .u8 83, .int .i64 (mark : Int), .slice A b.length cap] w fun e w' => e = .returned (.tuple #[.int .i64 1, .int .i64 0]) ∧ NextS w base σ { s with d := putD s.d a 83 (mark : Int) b 1 } w' := by
  have hsz : σ.j.y.abs.size = 128 := h.sz
  have hll : σ.j.y.abs.last.length = 512 := by rw [← h.ll]; simp [Lay.abs]
  obtain ⟨e1, e2, e3⟩ := put_one σ.j.y.abs h.lg.inv.base.off hsz hll a ha2 (mark : Int) b hb
  have hwl := h.wl
  have PC := pput_calls σ.j.y (a : Int) 83 (mark : Int) b A cap w base h.lg.ok.dk hG.tab h.base_le (hR.mono fun k _ hk => ⟨.log, .inr (.inr hk)⟩) hc hcap (by omega) hG.steps
  rw [e1, e2, e3] at PC
  refine PC.mono ?_
  rintro e w' ⟨rfl, N⟩
  refine ⟨rfl, ?_⟩
  have N2 := h.log (h.lg.out a 83 (mark : Int) b 1 (by omega) (by omega) N)
  rw [h.dk] at N2
  exact N2
end Go.Proofs.YtendnkklbeiegaaGreatDoor
