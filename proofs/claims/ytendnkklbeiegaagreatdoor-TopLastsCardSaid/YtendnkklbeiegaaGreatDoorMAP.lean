/-
  Walk: what a slice's sector tells, if it is just its.
-/
import Derived.Test.YtendnkklbeiegaaGreatDoorStoNote
namespace Go.Proofs.YtendnkklbeiegaaGreatDoor
open Go.RowKit Go.Maps StoreP JourP DiskP PageP

def okR (R : Int × UInt8 × Int × List UInt8 × Int) (x : Slot) : Prop := R.1 = 0 ∧ R.2.1 = 83 ∧ R.2.2.1 = (x.mark : Int) ∧ R.2.2.2.1.length = x.len
def TellsQ (R : Int × UInt8 × Int × List UInt8 × Int) (x : Slot) (w : World) (e : Ending) (w' : World) : Prop :=
  Below w.heap.size w w' ∧ ((okR R x ∧ ∃ A c, e = .returned (.tuple #[.slice A R.2.2.2.1.length c, .int .i64 0]) ∧ w'.ownsRow w.heap.size 5 1 (.slice A R.2.2.2.1.length c) R.2.2.2.1.length (cB R.2.2.2.1)) ∨ (¬ okR R x ∧ e = .returned (.tuple #[.slice none 0 0, .int .i64 8])))
/-- What is told of a slice: its bytes, or that they are gone. -/
def RetTells (d : Dsk) (x : Slot) (w : World) (e : Ending) (w' : World) : Prop := TellsQ (getR d (x.at_ : Int)) x w e w'
set_option maxRecDepth 100000 in
set_option maxHeartbeats 1600000 in
theorem tells_calls (σ : StoL) (s : SP) (x : Slot) (w : World) (base : Nat) (h : StoOK w base σ s) (hT : Tab w) (hd : (getR s.d (x.at_ : Int)).1 ≠ 10) :
    Calls Tryz.prog 33 #[.pointer (some ⟨σ.B, 0, none⟩), slotV x] w (RetTells s.d x w) := by
  unfold RetTells
  have GC := fun (w' : World) (b : Below w.heap.size w w') => pget_calls σ.j.y (x.at_ : Int) w' base ((h.below b).lg.ok.dk) (hT.below b)
  rw [h.dk] at GC
  revert hd GC
  generalize getR s.d (x.at_ : Int) = R
  obtain ⟨E, kd, mk, bs, n⟩ := R
  intro hd GC
  simp only at hd
  have B1 : Below w.heap.size w (w.alloc (.cells #[.int .i64 (x.at_ : Int), .int .i64 1, .int .i64 (x.len : Int), .int .i64 (x.mark : Int)] 112)) := (Below.refl _ _).alloc (Nat.le_refl _) _
  have b1 := Blk.new w 112 #[.int .i64 (x.at_ : Int), .int .i64 1, .int .i64 (x.len : Int), .int .i64 (x.mark : Int)]
  unfold slotV
  go_enter Tryz.func33, Tryz.ntmps33
  go_wp2_with fail
  revert B1 b1
  generalize w.alloc (.cells #[.int .i64 (x.at_ : Int), .int .i64 1, .int .i64 (x.len : Int), .int .i64 (x.mark : Int)] 112) = w1
  intro B1 b1
  have c0 : w1.cell? ⟨σ.B, 0, none⟩ = some (.pointer (some ⟨σ.j.y.D, 0, none⟩)) := (h.below B1).bx.at_ (i := 0) rfl
  have b0 : w1.cell? ⟨w.heap.size, 0, none⟩ = some (.int .i64 (x.at_ : Int)) := b1.at_ (i := 0) rfl
  have GC1 : Calls Tryz.prog 82 #[.pointer (some ⟨σ.j.y.D, 0, none⟩), .int .i64 (x.at_ : Int)] w1.drew (fun e' w5 => ∃ A c, e' = .returned (.tuple #[.int .u8 (kd.toNat : Int), .int .i64 mk, .slice A bs.length c, .int .i64 n, .int .i64 E]) ∧ w5.ownsRow w.heap.size 5 1 (.slice A bs.length c) bs.length (cB bs) ∧ Below w1.heap.size w1 w5) := by
    refine (GC w1.drew B1.drew).mono ?_
    rintro e' w5 ⟨v5, rfl, o5, b5⟩
    obtain ⟨A, c, hv, _, _⟩ := own_form o5
    have hv' : v5 = .slice A bs.length c := hv
    subst hv'
    exact ⟨A, c, rfl, own_mono o5 B1.size, ⟨b5.os, b5.tape, b5.output, b5.size, b5.block⟩⟩
  have HS : Hid (∀ wq, Below w1.heap.size w1 wq → wq.cell? ⟨σ.B, 0, none⟩ = some (.pointer (some ⟨σ.j.y.D, 0, none⟩)) ∧ wq.cell? ⟨w.heap.size, 0, none⟩ = some (.int .i64 (x.at_ : Int))) := fun wq b => ⟨cell_bel b c0, cell_bel b b0⟩
  have f1 : w1.drew.cell? ⟨σ.B, 0, none⟩ = some (.pointer (some ⟨σ.j.y.D, 0, none⟩)) ∧ w1.drew.cell? ⟨w.heap.size, 0, none⟩ = some (.int .i64 (x.at_ : Int)) := ⟨c0, b0⟩
  have hz1 := B1.size
  clear GC h hT c0 b0
  go_region_held (fun wq => wq.cell? ⟨σ.B, 0, none⟩ = some (.pointer (some ⟨σ.j.y.D, 0, none⟩)) ∧ wq.cell? ⟨w.heap.size, 0, none⟩ = some (.int .i64 (x.at_ : Int))) (first | exact f1 | exact f5) (first | (go_at_call 82; (with_reducible refine GC1.mono ?_); rintro _ w2 ⟨A, c, rfl, own, B2⟩; have f5 := HS.out _ B2))
  rename_i hHeld
  have b2 : Blk w2 w.heap.size 112 #[.int .i64 (x.at_ : Int), .int .i64 1, .int .i64 (x.len : Int), .int .i64 (x.mark : Int)] := b1.below B2 b1.lt
  have c2 : w2.cell? ⟨w.heap.size, 2, none⟩ = some (.int .i64 (x.len : Int)) := b2.at_ (i := 2) rfl
  have c3 : w2.cell? ⟨w.heap.size, 3, none⟩ = some (.int .i64 (x.mark : Int)) := b2.at_ (i := 3) rfl
  have B3 := B1.trans (B2.mono B1.size)
  have HN : Hid (w2.ownsRow w.heap.size 5 1 (.slice A bs.length c) bs.length (cB bs) ∧ Below w.heap.size w w2) := ⟨own, B3⟩
  have e10 : (E == 10) = false := by simpa using hd
  clear GC1 HS f1 f5 own B1 B2 B3 b1 b2 hz1 hd hHeld
  by_cases hE : E = 0
  · subst hE
    by_cases hk : kd = 83
    · subst hk
      by_cases hm : mk = (x.mark : Int)
      · subst hm
        have e3 : ((x.mark : Int) != (x.mark : Int)) = false := by simp
        by_cases hl : bs.length = x.len
        · have e4 : ((bs.length : Int) != (x.len : Int)) = false := by simp [hl]
          have HL := Lib.hid hl
          clear hl
          go_wp2
          go_ret2
          exact ⟨HN.out.2, .inl ⟨⟨rfl, rfl, rfl, HL.out⟩, _, _, rfl, HN.out.1⟩⟩
        · have e4 : ((bs.length : Int) != (x.len : Int)) = true := by simp; omega
          have e4' : ¬ (bs.length : Int) = (x.len : Int) := by omega
          have HL := Lib.hid hl
          clear hl
          go_wp2
          go_ret2
          exact ⟨HN.out.2, .inr ⟨fun q => HL.out q.2.2.2, rfl⟩⟩
      · have e3 : (mk != (x.mark : Int)) = true := by simpa using hm
        have HL := Lib.hid hm
        go_wp2
        go_ret2
        exact ⟨HN.out.2, .inr ⟨fun q => HL.out q.2.2.1, rfl⟩⟩
    · have e3 : ((kd.toNat : Int) != 83) = true := by
        rw [bne_iff_ne]
        intro q
        exact hk (UInt8.toNat_inj.1 (by show kd.toNat = 83; omega))
      have e3' : ¬ (kd.toNat : Int) = 83 := by simpa using e3
      have HL := Lib.hid hk
      clear hk
      go_wp2
      go_ret2
      exact ⟨HN.out.2, .inr ⟨fun q => HL.out q.2.1, rfl⟩⟩
  · have e3 : (E != 0) = true := by simpa using hE
    have HL := Lib.hid hE
    go_wp2
    go_ret2
    exact ⟨HN.out.2, .inr ⟨fun q => HL.out q.1, rfl⟩⟩
end Go.Proofs.YtendnkklbeiegaaGreatDoor
namespace Go.Proofs.YtendnkklbeiegaaGreatDoor
open Go.RowKit Go.Maps StoreP JourP DiskP PageP

/-- 'x, ok := m[n]' on a store's slices. -/
theorem sl_run {σ : StoL} {s : SP} {w : World} {base : Nat} (h : StoOK w base σ s) {n : Nm} (hn : okN n) :
    (Instr.lookup 95 (.map (some σ.M)) (.agg #[.int .i64 (n.1 : Int), .int .i64 (n.2 : Int)]) true).run Tryz.prog w =
      .ok (.tuple #[((s.st.sl n).map slotV).getD (.agg #[.int .i64 0, .int .i64 0, .int .i64 0, .int .i64 0]), .bool (s.st.sl n).isSome]) w := by
  obtain ⟨kl, hkl⟩ := keyOf_nm n hn
  have hl := MapV.look_ok_run (t := 95) (E := 112) h.sl nmKeyed Tryz.underlying95 (.agg #[.int .i64 0, .int .i64 0, .int .i64 0, .int .i64 0]) (fun w => Tryz.zeroValue112 w) hkl
  have e : (nmV n) = .agg #[.int .i64 (n.1 : Int), .int .i64 (n.2 : Int)] := rfl
  rw [e, ← e, encS_at] at hl
  rw [← e, hl]
  cases s.st.sl n <;> rfl
/-- What Get tells. -/
def RetGetS (s : SP) (n : Nm) (w : World) (e : Ending) (w' : World) : Prop :=
  match s.st.sl n with
  | none => Below w.heap.size w w' ∧ e = .returned (.tuple #[.slice none 0 0, .int .i64 6])
  | some x => RetTells s.d x w e w'
theorem RetTells.after {d : Dsk} {x : Slot} {w w1 w' : World} {e : Ending} (b : Below w.heap.size w w1) (h : RetTells d x w1 e w') : RetTells d x w e w' := by
  obtain ⟨b2, h⟩ := h
  refine ⟨b.trans (b2.mono b.size), ?_⟩
  rcases h with ⟨h1, A, c, h2, h3⟩ | h
  · exact .inl ⟨h1, A, c, h2, own_mono h3 b.size⟩
  · exact .inr h
set_option maxRecDepth 100000 in
set_option maxHeartbeats 1600000 in
theorem get_calls (σ : StoL) (s : SP) (n : Nm) (hn : okN n) (w : World) (base : Nat) (h : StoOK w base σ s) (hT : Tab w) (hd : ∀ x, s.st.sl n = some x → (getR s.d (x.at_ : Int)).1 ≠ 10) :
    Calls Tryz.prog 11 #[.pointer (some ⟨σ.B, 0, none⟩), nmV n] w (RetGetS s n w) := by
  have B1 : Below w.heap.size w (w.alloc (.cells #[.int .i64 (n.1 : Int), .int .i64 (n.2 : Int)] 40)) := (Below.refl _ _).alloc (Nat.le_refl _) _
  have b1 := Blk.new w 40 #[.int .i64 (n.1 : Int), .int .i64 (n.2 : Int)]
  have s1 : (w.alloc (.cells #[.int .i64 (n.1 : Int), .int .i64 (n.2 : Int)] 40)).heap.size = w.heap.size + 1 := by simp
  unfold nmV
  have HR : Hid (∀ e w', (match s.st.sl n with
  | none => Below w.heap.size w w' ∧ e = .returned (.tuple #[.slice none 0 0, .int .i64 6])
  | some x => RetTells s.d x w e w') → RetGetS s n w e w') := fun _ _ h => h
  generalize RetGetS s n w = RR at HR
  go_enter Tryz.func11, Tryz.ntmps11
  go_wp2_with fail
  revert B1 b1 s1
  generalize w.alloc (.cells #[.int .i64 (n.1 : Int), .int .i64 (n.2 : Int)] 40) = w1
  intro B1 b1 s1
  have h1 := h.below B1
  have c5 := h1.bx.at_ (i := 5) (v := .map (some σ.M)) rfl
  have n0 : w1.cell? ⟨w.heap.size, 0, none⟩ = some (.int .i64 (n.1 : Int)) := b1.at_ (i := 0) rfl
  have n1 : w1.cell? ⟨w.heap.size, 1, none⟩ = some (.int .i64 (n.2 : Int)) := b1.at_ (i := 1) rfl
  have hl := fun W' (b : Below w1.heap.size w1 W') => sl_run (h1.below b) hn
  cases hx : s.st.sl n with
  | none =>
    simp only [hx, Option.map_none, Option.getD_none, Option.isSome_none] at hl HR
    have HS : Hid (∀ W', Below w1.heap.size w1 W' → (W'.cell? ⟨σ.B, 5, none⟩ = some (.map (some σ.M)) ∧ W'.cell? ⟨w.heap.size, 0, none⟩ = some (.int .i64 (n.1 : Int)) ∧ W'.cell? ⟨w.heap.size, 1, none⟩ = some (.int .i64 (n.2 : Int)) ∧ (Instr.lookup 95 (.map (some σ.M)) (.agg #[.int .i64 (n.1 : Int), .int .i64 (n.2 : Int)]) true).run Tryz.prog W' = .ok (.tuple #[.agg #[.int .i64 0, .int .i64 0, .int .i64 0, .int .i64 0], .bool false]) W')) := fun W' b => ⟨cell_bel b c5, cell_bel b n0, cell_bel b n1, hl W' b⟩
    clear hl c5 n0 n1 hx h h1
    go_region_held (fun wq => wq.cell? ⟨σ.B, 5, none⟩ = some (.map (some σ.M)) ∧ wq.cell? ⟨w.heap.size, 0, none⟩ = some (.int .i64 (n.1 : Int)) ∧ wq.cell? ⟨w.heap.size, 1, none⟩ = some (.int .i64 (n.2 : Int)) ∧ (Instr.lookup 95 (.map (some σ.M)) (.agg #[.int .i64 (n.1 : Int), .int .i64 (n.2 : Int)]) true).run Tryz.prog wq = .ok (.tuple #[.agg #[.int .i64 0, .int .i64 0, .int .i64 0, .int .i64 0], .bool false]) wq)
      (exact HS.out _ (by repeat' (first | exact Below.refl _ _ | refine Below.drew ?_ | refine Below.alloc ?_ (by first | (simp; done) | (simp; omega)) _ | refine Below.setCell ?_ (by first | (simp; done) | (simp; omega)) _))) (fail)
    all_goals
      go_wp2_with fail
      exact HR.out _ _ ⟨B1.trans ((((Below.refl _ w1).alloc (Nat.le_refl _) _).drew).mono B1.size), rfl⟩
  | some x =>
    simp only [hx, Option.map_some, Option.getD_some, Option.isSome_some, slotV] at hl HR
    have HS : Hid (∀ W', Below w1.heap.size w1 W' → (W'.cell? ⟨σ.B, 5, none⟩ = some (.map (some σ.M)) ∧ W'.cell? ⟨w.heap.size, 0, none⟩ = some (.int .i64 (n.1 : Int)) ∧ W'.cell? ⟨w.heap.size, 1, none⟩ = some (.int .i64 (n.2 : Int)) ∧ (Instr.lookup 95 (.map (some σ.M)) (.agg #[.int .i64 (n.1 : Int), .int .i64 (n.2 : Int)]) true).run Tryz.prog W' = .ok (.tuple #[.agg #[.int .i64 (x.at_ : Int), .int .i64 1, .int .i64 (x.len : Int), .int .i64 (x.mark : Int)], .bool true]) W')) := fun W' b => ⟨cell_bel b c5, cell_bel b n0, cell_bel b n1, hl W' b⟩
    have hdx := hd x hx
    clear hl c5 n0 n1 hx h1
    go_region_held (fun wq => wq.cell? ⟨σ.B, 5, none⟩ = some (.map (some σ.M)) ∧ wq.cell? ⟨w.heap.size, 0, none⟩ = some (.int .i64 (n.1 : Int)) ∧ wq.cell? ⟨w.heap.size, 1, none⟩ = some (.int .i64 (n.2 : Int)) ∧ (Instr.lookup 95 (.map (some σ.M)) (.agg #[.int .i64 (n.1 : Int), .int .i64 (n.2 : Int)]) true).run Tryz.prog wq = .ok (.tuple #[.agg #[.int .i64 (x.at_ : Int), .int .i64 1, .int .i64 (x.len : Int), .int .i64 (x.mark : Int)], .bool true]) wq)
      (exact HS.out _ (by repeat' (first | exact Below.refl _ _ | refine Below.drew ?_ | refine Below.alloc ?_ (by first | (simp; done) | (simp; omega)) _ | refine Below.setCell ?_ (by first | (simp; done) | (simp; omega)) _))) (fail)
    all_goals
      have B2 : Below w.heap.size w (w1.alloc (.cells #[.int .i64 (x.at_ : Int), .int .i64 1, .int .i64 (x.len : Int), .int .i64 (x.mark : Int)] 112)).drew := B1.trans ((((Below.refl _ w1).alloc (Nat.le_refl _) _).drew).mono B1.size)
      have b2 : Blk (w1.alloc (.cells #[.int .i64 (x.at_ : Int), .int .i64 1, .int .i64 (x.len : Int), .int .i64 (x.mark : Int)] 112)).drew (w.heap.size + 1) 112 #[.int .i64 (x.at_ : Int), .int .i64 1, .int .i64 (x.len : Int), .int .i64 (x.mark : Int)] := by
        have := Blk.new w1 112 #[.int .i64 (x.at_ : Int), .int .i64 1, .int .i64 (x.len : Int), .int .i64 (x.mark : Int)]
        rw [s1] at this
        exact this
      have TC := tells_calls σ s x _ base (h.below B2) (hT.below B2) hdx
      unfold slotV at TC
      have HF := Lib.hid B2
      revert TC b2 HF
      generalize (w1.alloc (.cells #[.int .i64 (x.at_ : Int), .int .i64 1, .int .i64 (x.len : Int), .int .i64 (x.mark : Int)] 112)).drew = w2
      intro b2 TC HF
      have x0 := b2.at_ (i := 0) rfl
      have x1 := b2.at_ (i := 1) rfl
      have x2 := b2.at_ (i := 2) rfl
      have x3 := b2.at_ (i := 3) rfl
      clear HS
      go_wp2_with (go_at_call 33; refine TC.mono ?_; rintro e w3 ⟨b3, (⟨hok, A, c, rfl, own⟩ | ⟨hno, rfl⟩)⟩)
      · exact HR.out _ _ (RetTells.after HF.out ⟨b3, .inl ⟨hok, A, c, rfl, own⟩⟩)
      · exact HR.out _ _ (RetTells.after HF.out ⟨b3, .inr ⟨hno, rfl⟩⟩)
end Go.Proofs.YtendnkklbeiegaaGreatDoor
