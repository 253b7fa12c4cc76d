/-
  The statements' sameAll.
-/
import Derived.Test.YtdcjljlppeighaaDoorPurgeLawF
import Derived.Test.YtdcjljlppeighaaDoorPurgeLines
namespace Go.Proofs.YtdcjljlppeighaaDoor
open Go.RowKit PurgeP

theorem row_line {w : World} {base : Nat} {F : Nat → Prop} {v : Value} {rs : List LnR} (h : RowOK w base F v rs) {k : Nat} {x : LnR} (hk : rs[k]? = some x) : ∃ g c, v = .slice (some ⟨g, 0, none⟩) rs.length c ∧
    w.cell? ⟨g, k * 3, none⟩ = some (.int .i64 x.no) ∧ w.cell? ⟨g, k * 3 + 1, none⟩ = some (.slice x.A x.keys.length x.cap) ∧ w.cell? ⟨g, k * 3 + 2, none⟩ = some (.bool x.hard) := by
  obtain ⟨g, c, hv, _, _⟩ := row_blk h.own (List.getElem?_eq_some_iff.1 hk).1
  have ho := h.own
  rw [hv] at ho
  exact ⟨g, c, hv, line_at ho hk⟩
set_option maxHeartbeats 1600000 in
set_option maxRecDepth 100000 in
theorem all_calls (z : RefR) (F G : Nat → Prop) (base : Nat) (v : Value) (rs : List LnR) (w : World) (hv : RowOK w base G v rs) (hz : RefOK w F z) (he : rs.map LnR.abs = z.ls.map LnR.abs) :
    Calls Tryd.prog 18 #[v, .slice z.A z.ls.length z.cap] w fun e w' => e = .returned (.bool true) ∧ Below w.heap.size w w' := by
  have hlen : rs.length = z.ls.length := by have := congrArg List.length he; simpa using this
  have hll := hz.len_le
  obtain ⟨AR, cR, hvf, _, _⟩ := own_form hv.own
  have HV := Lib.hid hvf
  have dn : ((z.ls.length : Int) != (z.ls.length : Int)) = false := by simp
  rw [hvf, hlen]
  clear hvf
  go_enter Tryd.func18, Tryd.ntmps18
  go_wp2_with fail
  go_loopw [13] (fun i wr => ∃ k : Nat, k ≤ z.ls.length ∧ i = .int .i64 (k : Int) ∧ Below w.heap.size w wr) (fun i _ => z.ls.length - (intOf i).toNat)
  case atStart => exact ⟨0, by omega, rfl, Below.refl _ _⟩
  case round =>
    obtain ⟨k, hk, rfl, bel⟩ := hrel
    by_cases hlt : k < z.ls.length
    · have hdec : decide ((k : Int) < (z.ls.length : Int)) = true := decide_eq_true (by omega)
      have hdec' : decide (k < z.ls.length) = true := decide_eq_true hlt
      have hltI : (k : Int) < (z.ls.length : Int) := by omega
      obtain ⟨x, hx⟩ : ∃ x, z.ls[k]? = some x := ⟨_, List.getElem?_eq_getElem hlt⟩
      obtain ⟨r, hr⟩ : ∃ r, rs[k]? = some r := ⟨_, List.getElem?_eq_getElem (by omega)⟩
      have hab : r.abs = x.abs := by
        have := congrArg (fun l => l[k]?) he
        simp only [List.getElem?_map, hx, hr, Option.map_some] at this
        injection this
      obtain ⟨xn, xA, xc, xk, xh⟩ := x
      obtain ⟨rn, rA, rc, rk, rh⟩ := r
      have e1 : rn = xn := congrArg Ln.no hab
      have e2 : rk = xk := congrArg Ln.keys hab
      have e3 : rh = xh := congrArg Ln.hard hab
      subst e1 e2 e3
      have hvr := hv.below bel
      have hzr := hz.below bel
      obtain ⟨g, cg, hvf, p0, p1, p2⟩ := row_line hvr hr
      have hA : AR = some ⟨g, 0, none⟩ := by have := HV.out.symm.trans hvf; injection this
      subst hA
      obtain ⟨b, off, hzA, hbb, q0, q1, q2⟩ := hzr.line_at hx
      rw [hzA]
      have SC := fun wq (hb : Below wr.heap.size wr wq) => same_calls rn rk rh rA xA rc xc wq ((hvr.ks _ (List.mem_of_getElem? hr)).rs.below hb) ((hzr.ks _ (List.mem_of_getElem? hx)).rs.below hb) (by have := (hvr.ks _ (List.mem_of_getElem? hr)).cap; have := (hvr.ks _ (List.mem_of_getElem? hr)).c63; simp only at *; omega)
      have bd : Below wr.heap.size wr wr.drew := (Below.refl _ _).drew
      clear hvf hvr hzr hx hr hab hv hz he HV
      go_wp2_with fail
      go_region_law (first
        | (go_simp; go_at_call 32; refine (SC _ bd).mono ?_; rintro e w5 ⟨rfl, b5⟩)
        | fail "arm")
      all_goals
        go_wp2_with fail
        go_roundw
        case rel => exact ⟨k + 1, by omega, by go_num, bel.trans ((bd.trans (b5.mono bd.size)).mono bel.size)⟩
        case measure => simp [intOf]; omega
    · obtain rfl : k = z.ls.length := by omega
      clear hv hz he HV
      go_wp2_with fail
      go_ret
      exact ⟨rfl, bel⟩
end Go.Proofs.YtdcjljlppeighaaDoor
