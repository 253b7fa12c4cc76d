/-
  The walk of package page's read, whole.
-/
import Derived.Test.YtpojlchikaffhaaDoorPageWalkE
namespace Go.Proofs.YtpojlchikaffhaaDoor
open Go.RowKit DiskP SumP PageP

theorem rd_calls (l : List UInt8) (g cap : Nat) (w : World) (hT : Tab w) (hR : RB w (some ⟨g, 0, none⟩) l) (hl : l.length ≤ 4096) (hcap : l.length ≤ cap) :
    Calls Tryd.prog 58 #[.slice (some ⟨g, 0, none⟩) l.length cap] w (RetRd w l g) := by
  by_cases h : 19 ≤ l.length
  · by_cases hs : beN (l.drop (l.length - 4)) = crc (l.take (l.length - 4))
    · obtain ⟨k0, hk0⟩ : ∃ k, l[0]? = some k := ⟨_, List.getElem?_eq_getElem (by omega)⟩
      obtain ⟨k13, hk13⟩ : ∃ k, l[13]? = some k := ⟨_, List.getElem?_eq_getElem (by omega)⟩
      obtain ⟨p, hlp⟩ : ∃ p, l.length = p + 18 := ⟨l.length - 18, by omega⟩
      obtain ⟨NL, hnl⟩ : ∃ n, beN (PageP.sub l 9 13) = n := ⟨_, rfl⟩
      exact rd_right l g cap w hT hR hl hcap h hs k0 k13 hk0 hk13 p NL hlp hnl
    · exact rd_sum l g cap w hT hR hl hcap h hs
  · exact rd_short l g cap w (by omega)
theorem rd_facts {l : List UInt8} {x : Sec} (h : rd l = some x) : x.left ≤ 1073741824 ∧ x.bytes.length ≤ x.left ∧ x.bytes = PageP.sub l 14 (14 + x.bytes.length) ∧ 14 + x.bytes.length ≤ l.length ∧ x.bytes.length ≤ l.length := by
  unfold rd at h
  split at h
  · rename_i hok
    injection h with h
    subst h
    unfold rdOK at hok
    simp only [Bool.and_eq_true, decide_eq_true_eq] at hok
    obtain ⟨⟨⟨⟨⟨⟨h19, _⟩, _⟩, _⟩, hbig⟩, _⟩, _⟩ := hok
    have hm : rdMany l ≤ l.length - 4 - 14 := Nat.min_le_right _ _
    have hm2 : rdMany l ≤ beN (PageP.sub l 9 13) := Nat.min_le_left _ _
    have e : (PageP.sub l 14 (14 + rdMany l)).length = rdMany l := by rw [sub_len _ _ _ (by omega)]; omega
    unfold rdS
    simp only
    rw [e]
    exact ⟨hbig, hm2, rfl, by omega, by omega⟩
  · cases h
end Go.Proofs.YtpojlchikaffhaaDoor
