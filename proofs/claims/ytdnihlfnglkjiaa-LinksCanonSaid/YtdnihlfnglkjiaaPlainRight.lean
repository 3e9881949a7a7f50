/- When all stands in order: the laws that the walks lean on. -/
import Derived.Test.YtdnihlfnglkjiaaPlain
namespace Go.Proofs.Ytdnihlfnglkjiaa
open Go.RowKit

noncomputable def rightB (l : List ByteArray) (cs : List Glyph) : Bool := @decide (Right l cs) (Classical.propDecidable _)
theorem right_yes {l : List ByteArray} {cs : List Glyph} (h : Right l cs) : rightB l cs = true := by unfold rightB; exact @decide_eq_true _ (Classical.propDecidable _) h
theorem right_no {l : List ByteArray} {cs : List Glyph} (h : ¬ Right l cs) : rightB l cs = false := by unfold rightB; exact @decide_eq_false _ (Classical.propDecidable _) h
theorem right_iff {l : List ByteArray} {cs : List Glyph} : rightB l cs = true ↔ Right l cs := ⟨fun h => by unfold rightB at h; exact @of_decide_eq_true _ (Classical.propDecidable _) h, right_yes⟩
theorem getT {l : List ByteArray} {i : Nat} (h : i < l.length) : l.getD i ByteArray.empty = l[i] := by rw [List.getD_eq_getElem?_getD, List.getElem?_eq_getElem h]; rfl
theorem right_may {l : List ByteArray} {cs : List Glyph} (h : Right l cs) {i : Nat} (hi : i < l.length) : may (l.getD i ByteArray.empty) = true := by
  refine (tx_all l cs cs.length _ ?_).1
  rw [h.2.2, getT hi]
  exact List.getElem_mem hi
theorem right_apart {l : List ByteArray} {cs : List Glyph} (h : Right l cs) {q i : Nat} (hq : q < i) (hi : i < l.length) : l.getD q ByteArray.empty ≠ l.getD i ByteArray.empty := by
  have h1 := tx_nodup l cs cs.length
  rw [h.2.2] at h1
  rw [getT (Nat.lt_trans hq hi), getT hi]
  intro e
  have := (List.nodup_iff_pairwise_ne.1 h1)
  rw [List.pairwise_iff_getElem] at this
  exact this q i _ _ hq e
/-- All texts may be, and none stands twice. -/
def Good (l : List ByteArray) : Prop := (∀ i, i < l.length → may (l.getD i ByteArray.empty) = true) ∧ ∀ q i, q < i → i < l.length → l.getD q ByteArray.empty ≠ l.getD i ByteArray.empty
/-- The first i cells stand in order, up to the number top. -/
def Upto (l : List ByteArray) (cs : List Glyph) (i top : Nat) : Prop := top ≤ l.length ∧ tx l cs i = l.take top ∧ ∀ j, j < i → number (tx l cs (j + 1)) (leads l (cs.getD j g0).l) = (cs.getD j g0).l
theorem upto_start (l : List ByteArray) (cs : List Glyph) : Upto l cs 0 0 := ⟨Nat.zero_le _, by simp [tx], fun j h => absurd h (by omega)⟩
theorem good_leads {l : List ByteArray} (hg : Good l) {n : Nat} (h1 : 1 ≤ n) (h2 : n ≤ l.length) : leads l n = l.getD (n - 1) ByteArray.empty ∧ leads l n ≠ ByteArray.empty := by
  have h3 := hg.1 (n - 1) (by omega)
  have h4 : leads l n = l.getD (n - 1) ByteArray.empty := by
    unfold leads
    rw [Int.toNat_natCast, if_pos ⟨by omega, by omega, h3⟩]
  refine ⟨h4, ?_⟩
  rw [h4]
  intro e
  rw [e, may_empty] at h3
  cases h3
theorem leads_out {l : List ByteArray} {n : Int} (h : ¬ (1 ≤ n ∧ n ≤ l.length)) : leads l n = ByteArray.empty := by
  unfold leads
  rw [if_neg fun k => h ⟨k.1, k.2.1⟩]
theorem takeT {l : List ByteArray} {top j : Nat} (h : j < top) : (l.take top).getD j ByteArray.empty = l.getD j ByteArray.empty := by
  rw [List.getD_eq_getElem?_getD, List.getElem?_take_of_lt h, List.getD_eq_getElem?_getD]
theorem take_place {l : List ByteArray} (hg : Good l) {top n : Nat} (h1 : 1 ≤ n) (h2 : n ≤ l.length) (h3 : n ≤ top) : place (l.take top) (l.getD (n - 1) ByteArray.empty) = (n - 1 : Nat) := by
  refine place_at (by rw [List.length_take]; omega) (fun j hj => ?_) ?_
  · rw [takeT (by omega)]
    exact hg.2 j (n - 1) hj (by omega)
  · rw [takeT (by omega)]
theorem take_none {l : List ByteArray} (hg : Good l) {top n : Nat} (h2 : n ≤ l.length) (h3 : top < n) : place (l.take top) (l.getD (n - 1) ByteArray.empty) = -1 := by
  refine place_not fun j hj => ?_
  rw [List.length_take] at hj
  rw [takeT (by omega)]
  exact hg.2 j (n - 1) (by omega) (by omega)
theorem upto_low {l : List ByteArray} {cs : List Glyph} {i top n : Nat} (hg : Good l) (h : Upto l cs i top) (hn : (cs.getD i g0).l = n) (h1 : n ≤ top) : Upto l cs (i + 1) top := by
  have htop := h.1
  have key : tx l cs (i + 1) = l.take top ∧ number (l.take top) (leads l (cs.getD i g0).l) = (cs.getD i g0).l := by
    rw [tx, h.2.1, hn]
    rcases Nat.eq_zero_or_pos n with h0 | h0
    · subst h0
      rw [leads_out (by omega)]
      exact ⟨by unfold addT; rw [if_pos (.inl rfl)], by unfold number; rw [if_pos rfl]; rfl⟩
    · obtain ⟨h3, h4⟩ := good_leads hg h0 (Nat.le_trans h1 htop)
      have h5 := take_place hg h0 (Nat.le_trans h1 htop) h1
      rw [← h3] at h5
      refine ⟨by unfold addT; rw [if_pos (.inr (by omega))], ?_⟩
      unfold number
      rw [if_neg h4, h5]
      omega
  refine ⟨htop, key.1, fun j hj => ?_⟩
  rcases Nat.lt_or_ge j i with h2 | h2
  · exact h.2.2 j h2
  · obtain rfl : j = i := by omega
    rw [key.1]
    exact key.2
theorem take_succ {l : List ByteArray} {top : Nat} (h : top < l.length) : l.take (top + 1) = l.take top ++ [l.getD top ByteArray.empty] := by
  rw [List.take_add_one, List.getElem?_eq_getElem h, getT h]
  rfl
theorem upto_next {l : List ByteArray} {cs : List Glyph} {i top : Nat} (hg : Good l) (h : Upto l cs i top) (hn : (cs.getD i g0).l = (top + 1 : Nat)) (h1 : top < l.length) : Upto l cs (i + 1) (top + 1) := by
  obtain ⟨h3, h4⟩ := good_leads hg (show 1 ≤ top + 1 by omega) (show top + 1 ≤ l.length by omega)
  have h5 := take_none hg (show top + 1 ≤ l.length by omega) (show top < top + 1 by omega)
  rw [Nat.add_sub_cancel] at h3 h5
  have key : tx l cs (i + 1) = l.take (top + 1) := by
    rw [tx, h.2.1, hn, take_succ h1, ← h3]
    unfold addT
    rw [if_neg]
    rintro (e | e)
    · exact h4 e
    · rw [h3, h5] at e
      omega
  refine ⟨h1, key, fun j hj => ?_⟩
  rcases Nat.lt_or_ge j i with h2 | h2
  · exact h.2.2 j h2
  · obtain rfl : j = i := by omega
    rw [key, hn]
    have h6 := take_place (top := top + 1) hg (show 1 ≤ top + 1 by omega) (show top + 1 ≤ l.length by omega) (Nat.le_refl _)
    rw [Nat.add_sub_cancel] at h6
    unfold number
    rw [if_neg h4, h3, h6]
    omega
theorem right_number {l : List ByteArray} {cs : List Glyph} (h : Right l cs) {i : Nat} (hi : i < cs.length) : number (tx l cs (i + 1)) (leads l (cs.getD i g0).l) = (cs.getD i g0).l := by
  have h1 := canon_at2 l hi
  rw [h.2.1] at h1
  have h2 : (cs.getD i g0).l = (renum l (tx l cs (i + 1)) (cs.getD i g0)).l := by rw [← h1]
  exact h2.symm
theorem upto_not {l : List ByteArray} {cs : List Glyph} {i top n : Nat} (hg : Good l) (h : Upto l cs i top) (hi : i < cs.length) (hn : (cs.getD i g0).l = n) (h1 : top + 1 < n ∨ l.length < n) : ¬ Right l cs := by
  intro hr
  have h2 := right_number hr hi
  have htop := h.1
  rw [hn] at h2
  by_cases h3 : n ≤ l.length
  · obtain ⟨h4, h5⟩ := good_leads hg (show 1 ≤ n by omega) h3
    have h6 := take_none hg h3 (show top < n by omega)
    rw [tx, h.2.1, hn] at h2
    rw [← h4] at h6
    unfold addT at h2
    rw [if_neg (by rintro (e | e); exact h5 e; omega)] at h2
    unfold number at h2
    rw [if_neg h5, place_new (by omega), List.length_take] at h2
    omega
  · rw [leads_out (by omega)] at h2
    unfold number at h2
    rw [if_pos rfl] at h2
    omega
theorem upto_end {l : List ByteArray} {cs : List Glyph} {top : Nat} (h : Upto l cs cs.length top) (h16 : l.length ≤ 16) : Right l cs ↔ top = l.length := by
  constructor
  · intro hr
    have h1 := hr.2.2
    rw [h.2.1] at h1
    have h2 := congrArg List.length h1
    rw [List.length_take] at h2
    have := h.1
    omega
  · intro e
    refine ⟨h16, glyphs_ext (canon_len _ _) fun j hj => ?_, by rw [h.2.1, e, List.take_length]⟩
    rw [canon_len] at hj
    rw [canon_at2 l hj]
    unfold renum
    rw [h.2.2 j hj]
end Go.Proofs.Ytdnihlfnglkjiaa
