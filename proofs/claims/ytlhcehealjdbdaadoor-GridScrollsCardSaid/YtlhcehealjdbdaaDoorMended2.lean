/- Insert and delete, mended; what is mended is a row that may be; blanks put in and taken out again. -/
import Derived.Test.YtlhcehealjdbdaaDoorMended
namespace Go.Proofs.YtlhcehealjdbdaaDoor
open Go.RowKit
set_option linter.unusedSimpArgs false
set_option linter.unusedVariables false

section
variable {xs : List Glyph} {x n f b : Int} {k j i : Nat}
theorem insert_pcs (hx : x = k) (hj : min n (xs.length - k) = j) (hk : k < xs.length) (hkj : k + j ≤ xs.length) : (insertPc xs x n b).length = xs.length ∧ ∀ i, i < xs.length → pat (insertPc xs x n b) i = if i < k then ⟨at_ xs i, i⟩ else if i < k + j then newPc b else ⟨at_ xs (i - j), ((i - j : Nat) : Int)⟩ := by
  subst hx
  have hpl := pieces_len xs
  unfold insertPc
  rw [hj, Int.toNat_natCast, Int.toNat_natCast]
  have l1 : ((piecesP xs).take k).length = k := by rw [List.length_take, hpl]; omega
  have l3 : (((piecesP xs).drop k).take (xs.length - k - j)).length = xs.length - k - j := by rw [List.length_take, List.length_drop, hpl]; omega
  refine ⟨by rw [List.length_append, List.length_append, l1, l3, List.length_replicate]; omega, fun i hi => ?_⟩
  unfold pat
  rw [List.getD_eq_getElem?_getD, List.getElem?_append, List.getElem?_append, List.length_append, l1, List.length_replicate]
  by_cases h1 : i < k
  · rw [if_pos (by omega), if_pos h1, if_pos h1, List.getElem?_take, if_pos h1, ← List.getD_eq_getElem?_getD]
    exact pieces_pt hi
  · rw [if_neg h1, if_neg h1]
    by_cases h2 : i < k + j
    · rw [if_pos h2, if_pos h2, List.getElem?_replicate, if_pos (by omega)]
      rfl
    · rw [if_neg h2, if_neg h2, List.getElem?_take, if_pos (by omega), List.getElem?_drop, ← List.getD_eq_getElem?_getD, show k + (i - (k + j)) = i - j from by omega]
      exact pieces_pt (by omega)
theorem delete_pcs (hx : x = k) (hj : min n (xs.length - k) = j) (hk : k < xs.length) (hkj : k + j ≤ xs.length) : (deletePc xs x n b).length = xs.length ∧ ∀ i, i < xs.length → pat (deletePc xs x n b) i = if i < k then ⟨at_ xs i, i⟩ else if i < xs.length - j then ⟨at_ xs (i + j), ((i + j : Nat) : Int)⟩ else newPc b := by
  subst hx
  have hpl := pieces_len xs
  unfold deletePc
  rw [hj, Int.toNat_natCast, Int.toNat_natCast]
  have l1 : ((piecesP xs).take k).length = k := by rw [List.length_take, hpl]; omega
  have l3 : ((piecesP xs).drop (k + j)).length = xs.length - (k + j) := by rw [List.length_drop, hpl]
  refine ⟨by rw [List.length_append, List.length_append, l1, l3, List.length_replicate]; omega, fun i hi => ?_⟩
  unfold pat
  rw [List.getD_eq_getElem?_getD, List.getElem?_append, List.getElem?_append, List.length_append, l1, l3]
  by_cases h1 : i < k
  · rw [if_pos (by omega), if_pos h1, if_pos h1, List.getElem?_take, if_pos h1, ← List.getD_eq_getElem?_getD]
    exact pieces_pt hi
  · rw [if_neg h1, if_neg h1]
    by_cases h2 : i < xs.length - j
    · rw [if_pos (by omega), if_pos h2, List.getElem?_drop, ← List.getD_eq_getElem?_getD, show k + j + (i - k) = i + j from by omega]
      exact pieces_pt (by omega)
    · rw [if_neg (by omega), if_neg h2, List.getElem?_replicate, if_pos (by omega)]
      rfl
/-- Behind two cuts, at the same place or not. -/
theorem cut2_le {y : Nat} (hxy : k ≤ y) : at_ (cutP (cutP xs k) y) i = if 0 < y ∧ y < xs.length ∧ (at_ xs y).w = 2 ∧ (i = y ∨ i + 1 = y) then blank (at_ xs y).b else if 0 < k ∧ k < xs.length ∧ (at_ xs k).w = 2 ∧ (i = k ∨ i + 1 = k) then blank (at_ xs k).b else at_ xs i := by
  rcases Nat.lt_or_ge k y with h | h
  · exact cut2_at h
  · obtain rfl : k = y := by omega
    by_cases hc : 0 < k ∧ k < xs.length ∧ (at_ xs k).w = 2
    · have e : (at_ (cutP xs k) k).w = 0 := by rw [cut_at, if_pos ⟨hc.1, hc.2.1, hc.2.2, .inl rfl⟩]; rfl
      rw [cut_at (xs := cutP xs k), cutP_len, if_neg (fun q => by rw [e] at q; omega), cut_at]
      split
      · rfl
      · rfl
    · rw [cut_at (xs := cutP xs k), cutP_len]
      have e : at_ (cutP xs k) k = at_ xs k := by rw [cut_at, if_neg (fun q => hc ⟨q.1, q.2.1, q.2.2.1⟩)]
      rw [e, if_neg (fun q => hc ⟨q.1, q.2.1, q.2.2.1⟩), if_neg (fun q => hc ⟨q.1, q.2.1, q.2.2.1⟩), cut_at, if_neg (fun q => hc ⟨q.1, q.2.1, q.2.2.1⟩)]
theorem insert_len (h : (rowMay xs && penMay f b) = true) : (insertP xs x n f b).length = xs.length := by
  unfold insertP
  rw [if_pos h]
  split
  · rfl
  · rw [fillP_len, shift_len (by rw [cutP_len, cutP_len]; omega) (by rw [cutP_len, cutP_len]; omega), cutP_len, cutP_len]
theorem delete_len (h : (rowMay xs && penMay f b) = true) : (deleteP xs x n f b).length = xs.length := by
  unfold deleteP
  rw [if_pos h]
  split
  · rfl
  · rw [fillP_len, shift_len (by rw [cutP_len, cutP_len]; omega) (by rw [cutP_len, cutP_len]; omega), cutP_len, cutP_len]
theorem insert_pt (h : (rowMay xs && penMay f b) = true) (hx : x = k) (hj : min n (xs.length - k) = j) (hk : k < xs.length) (hn : 1 ≤ j) :
    at_ (insertP xs x n f b) i = if i < k then at_ (cutP (cutP xs k) (xs.length - j)) i else if i < k + j then blank b else if i < xs.length then at_ (cutP (cutP xs k) (xs.length - j)) (i - j) else at_ (cutP (cutP xs k) (xs.length - j)) i := by
  subst hx
  unfold insertP
  have hl : (cutP (cutP xs k) (xs.length - j)).length = xs.length := by rw [cutP_len, cutP_len]
  rw [if_pos h, if_neg (by omega), hj, Int.toNat_natCast, Int.toNat_natCast, fill_at (by rw [shift_len (by omega) (by omega)]; omega), shift_at (by omega) (by omega)]
  by_cases h1 : i < k
  · rw [if_neg (by omega), if_neg (by omega), if_pos h1]
  · rw [if_neg h1]
    by_cases h2 : i < k + j
    · rw [if_pos (by omega), if_pos h2]
    · rw [if_neg (by omega), if_neg h2]
      by_cases h3 : i < xs.length
      · rw [if_pos (by omega), if_pos h3, show k + (i - (k + j)) = i - j from by omega]
      · rw [if_neg (by omega), if_neg h3]
theorem delete_pt (h : (rowMay xs && penMay f b) = true) (hx : x = k) (hj : min n (xs.length - k) = j) (hk : k < xs.length) (hn : 1 ≤ j) (hi : i < xs.length) :
    at_ (deleteP xs x n f b) i = if i < k then at_ (cutP (cutP xs k) (k + j)) i else if i < xs.length - j then at_ (cutP (cutP xs k) (k + j)) (i + j) else blank b := by
  subst hx
  unfold deleteP
  have hl : (cutP (cutP xs k) (k + j)).length = xs.length := by rw [cutP_len, cutP_len]
  rw [if_pos h, if_neg (by omega), hj, Int.toNat_natCast, Int.toNat_natCast, fill_at (by rw [shift_len (by omega) (by omega)]; omega), shift_at (by omega) (by omega)]
  by_cases h1 : i < k
  · rw [if_neg (by omega), if_neg (by omega), if_pos h1]
  · rw [if_neg h1]
    by_cases h2 : i < xs.length - j
    · rw [if_neg (by omega), if_pos (by omega), if_pos h2, show k + j + (i - k) = i + j from by omega]
    · rw [if_pos (by omega), if_neg h2]
theorem insert_want : insertP xs x n f b = insertW xs x n f b := by
  by_cases h : (rowMay xs && penMay f b) = true
  · have hr := row_iff.1 (Bool.and_eq_true_iff.1 h).1
    by_cases h0 : x < 0 ∨ xs.length ≤ x ∨ n < 1
    · unfold insertP insertW
      rw [if_pos h, if_pos h, if_pos h0, if_pos h0]
    · have e : insertW xs x n f b = mendP (insertPc xs x n b) := by unfold insertW; rw [if_pos h, if_neg h0]
      rw [e]
      obtain ⟨k, hk⟩ : ∃ k : Nat, x = k := ⟨x.toNat, by omega⟩
      obtain ⟨j, hj⟩ : ∃ j : Nat, min n (xs.length - k) = j := ⟨(min n ((xs.length : Int) - k)).toNat, by omega⟩
      obtain ⟨hl, hp⟩ := insert_pcs (b := b) hk hj (by omega) (by omega)
      refine gext (by rw [insert_len h, mend_len, hl]) fun i hi => ?_
      rw [insert_len h] at hi
      show at_ (insertP xs x n f b) i = at_ (mendP _) i
      rw [mend_pt (by rw [hl]; exact hi), insert_pt h hk hj (by omega) (by omega)]
      have hpi := hp i hi
      by_cases h1 : i < k
      · rw [if_pos h1] at hpi ⊢
        rw [cut2_le (by omega)]
        by_cases hw : (at_ xs i).w = 1 ∧ i + 1 = k
        · have hpr := pair_right hr hi hw.1
          have hp1 := hp (i + 1) hpr.1
          rw [if_neg (by omega)] at hp1
          rw [mend_cutR hpi hw.1 (.inr (by
            rw [hp1, if_pos (by omega)]
            show (-10 : Int) ≠ _
            omega)), show (at_ xs i).b = (at_ xs k).b from by rw [← hpr.2.2, hw.2]]
          by_cases hy : 0 < xs.length - j ∧ xs.length - j < xs.length ∧ (at_ xs (xs.length - j)).w = 2 ∧ (i = xs.length - j ∨ i + 1 = xs.length - j)
          · rw [if_pos hy, show xs.length - j = k from by omega]
          · rw [if_neg hy, if_pos ⟨by omega, by omega, by rw [← hw.2]; exact hpr.2.1, .inr hw.2⟩]
        · rw [mend_keep hr hi hpi (fun q => ?_) (fun q => ?_)]
          · rw [if_neg (fun q => hw ?_), if_neg (fun q => hw ?_)]
            · have hpl := pair_left hr (by omega) q.2.2.1
              rw [show k - 1 = i from by omega] at hpl
              exact ⟨hpl.2.1, by omega⟩
            · have hpl := pair_left hr (by omega) q.2.2.1
              rw [show xs.length - j - 1 = i from by omega] at hpl
              exact ⟨hpl.2.1, by omega⟩
          · have hpr := pair_right hr hi q
            have hne : i + 1 ≠ k := fun e => hw ⟨q, e⟩
            have hp1 := hp (i + 1) hpr.1
            rw [if_pos (by omega)] at hp1
            exact ⟨by omega, hp1⟩
          · have hpl := pair_left hr hi q
            have hp1 := hp (i - 1) (by omega)
            rw [if_pos (by omega)] at hp1
            exact ⟨by omega, hp1⟩
      · rw [if_neg h1] at hpi ⊢
        by_cases h2 : i < k + j
        · rw [if_pos h2] at hpi ⊢
          rw [mend_new0 (by rw [hpi]; rfl), hpi]
          rfl
        · rw [if_neg h2] at hpi ⊢
          rw [if_pos hi, cut2_le (by omega)]
          obtain ⟨m, rfl⟩ : ∃ m, i = m + j := ⟨i - j, by omega⟩
          rw [Nat.add_sub_cancel] at hpi ⊢
          by_cases hA : (at_ xs m).w = 2 ∧ m = k
          · obtain ⟨hA, rfl⟩ := hA
            have hpl := pair_left hr (by omega) hA
            rw [mend_cutL hpi hA (.inr (by
              have hp1 := hp (m + j - 1) (by omega)
              rw [if_neg (by omega), if_pos (by omega)] at hp1
              rw [hp1]
              show (-10 : Int) ≠ _
              omega))]
            by_cases hy : 0 < xs.length - j ∧ xs.length - j < xs.length ∧ (at_ xs (xs.length - j)).w = 2 ∧ (m = xs.length - j ∨ m + 1 = xs.length - j)
            · have hpl2 := pair_left hr (by omega) hy.2.2.1
              rcases hy.2.2.2 with hy1 | hy1
              · omega
              · rw [show xs.length - j - 1 = m from by omega] at hpl2
                omega
            · rw [if_neg hy, if_pos ⟨hpl.1, by omega, hA, .inl rfl⟩]
          · by_cases hB : (at_ xs m).w = 1 ∧ m + 1 = xs.length - j
            · have hpr := pair_right hr (by omega) hB.1
              rw [mend_cutR hpi hB.1 (.inl (by omega)), if_pos ⟨by omega, by omega, by rw [← hB.2]; exact hpr.2.1, .inr hB.2⟩, ← hB.2, hpr.2.2]
            · rw [mend_keep hr (by omega) hpi (fun q => ?_) (fun q => ?_)]
              · rw [if_neg (fun q => ?_), if_neg (fun q => ?_)]
                · rcases q.2.2.2 with q1 | q1
                  · exact hA ⟨by rw [q1]; exact q.2.2.1, q1⟩
                  · omega
                · rcases q.2.2.2 with q1 | q1
                  · omega
                  · have hpl := pair_left hr (by omega) q.2.2.1
                    rw [show xs.length - j - 1 = m from by omega] at hpl
                    exact hB ⟨hpl.2.1, q1⟩
              · have hpr := pair_right hr (by omega) q
                have hne : m + 1 ≠ xs.length - j := fun e => hB ⟨q, e⟩
                have hp1 := hp (m + j + 1) (by omega)
                rw [if_neg (by omega), if_neg (by omega), show m + j + 1 - j = m + 1 from by omega] at hp1
                exact ⟨by omega, hp1⟩
              · have hpl := pair_left hr (by omega) q
                have hne : m ≠ k := fun e => hA ⟨q, e⟩
                have hp1 := hp (m + j - 1) (by omega)
                rw [if_neg (by omega), if_neg (by omega), show m + j - 1 - j = m - 1 from by omega] at hp1
                exact ⟨by omega, hp1⟩
  · unfold insertP insertW
    rw [if_neg h, if_neg h]
theorem delete_want : deleteP xs x n f b = deleteW xs x n f b := by
  by_cases h : (rowMay xs && penMay f b) = true
  · have hr := row_iff.1 (Bool.and_eq_true_iff.1 h).1
    by_cases h0 : x < 0 ∨ xs.length ≤ x ∨ n < 1
    · unfold deleteP deleteW
      rw [if_pos h, if_pos h, if_pos h0, if_pos h0]
    · have e : deleteW xs x n f b = mendP (deletePc xs x n b) := by unfold deleteW; rw [if_pos h, if_neg h0]
      rw [e]
      obtain ⟨k, hk⟩ : ∃ k : Nat, x = k := ⟨x.toNat, by omega⟩
      obtain ⟨j, hj⟩ : ∃ j : Nat, min n (xs.length - k) = j := ⟨(min n ((xs.length : Int) - k)).toNat, by omega⟩
      have hjk : k + j ≤ xs.length := by omega
      obtain ⟨hl, hp⟩ := delete_pcs (b := b) hk hj (by omega) (by omega)
      refine gext (by rw [delete_len h, mend_len, hl]) fun i hi => ?_
      rw [delete_len h] at hi
      show at_ (deleteP xs x n f b) i = at_ (mendP _) i
      rw [mend_pt (by rw [hl]; exact hi), delete_pt h hk hj (by omega) (by omega) hi]
      have hpi := hp i hi
      by_cases h1 : i < k
      · rw [if_pos h1] at hpi ⊢
        rw [cut2_le (by omega), if_neg (by omega)]
        by_cases hw : (at_ xs i).w = 1 ∧ i + 1 = k
        · have hpr := pair_right hr hi hw.1
          have hp1 := hp (i + 1) hpr.1
          rw [if_neg (by omega)] at hp1
          rw [mend_cutR hpi hw.1 (.inr (by
            rw [hp1]
            split
            · simp only
              omega
            · show (-10 : Int) ≠ _
              omega)), show (at_ xs i).b = (at_ xs k).b from by rw [← hpr.2.2, hw.2], if_pos ⟨by omega, by omega, by rw [← hw.2]; exact hpr.2.1, .inr hw.2⟩]
        · rw [mend_keep hr hi hpi (fun q => ?_) (fun q => ?_)]
          · rw [if_neg (fun q => hw ?_)]
            have hpl := pair_left hr (by omega) q.2.2.1
            rw [show k - 1 = i from by omega] at hpl
            exact ⟨hpl.2.1, by omega⟩
          · have hpr := pair_right hr hi q
            have hne : i + 1 ≠ k := fun e => hw ⟨q, e⟩
            have hp1 := hp (i + 1) hpr.1
            rw [if_pos (by omega)] at hp1
            exact ⟨by omega, hp1⟩
          · have hpl := pair_left hr hi q
            have hp1 := hp (i - 1) (by omega)
            rw [if_pos (by omega)] at hp1
            exact ⟨by omega, hp1⟩
      · rw [if_neg h1] at hpi ⊢
        by_cases h2 : i < xs.length - j
        · rw [if_pos h2] at hpi ⊢
          have hm : i + j < xs.length := by omega
          rw [cut2_le (by omega)]
          by_cases hA : (at_ xs (i + j)).w = 2 ∧ i = k
          · obtain ⟨hA, rfl⟩ := hA
            rw [mend_cutL hpi hA (by
              by_cases hi0 : i = 0
              · exact .inl hi0
              · refine .inr ?_
                have hp1 := hp (i - 1) (by omega)
                rw [if_pos (by omega)] at hp1
                rw [hp1]
                simp only
                omega), if_pos ⟨by omega, hm, hA, .inl rfl⟩]
          · rw [mend_keep hr hm hpi (fun q => ?_) (fun q => ?_)]
            · rw [if_neg (fun q => ?_), if_neg (by omega)]
              rcases q.2.2.2 with q1 | q1
              · exact hA ⟨by rw [q1]; exact q.2.2.1, by omega⟩
              · omega
            · have hpr := pair_right hr hm q
              have hp1 := hp (i + 1) (by omega)
              rw [if_neg (by omega), if_pos (by omega), show i + 1 + j = i + j + 1 from by omega] at hp1
              exact ⟨by omega, hp1⟩
            · have hpl := pair_left hr hm q
              have hne : i ≠ k := fun e => hA ⟨q, e⟩
              have hp1 := hp (i - 1) (by omega)
              rw [if_neg (by omega), if_pos (by omega), show i - 1 + j = i + j - 1 from by omega] at hp1
              exact ⟨by omega, hp1⟩
        · rw [if_neg h2] at hpi ⊢
          rw [mend_new0 (by rw [hpi]; rfl), hpi]
          rfl
  · unfold deleteP deleteW
    rw [if_neg h, if_neg h]
end
/-! What is mended may be. -/
def PcOk (xs : List Glyph) (q : Int × Int × Int × Int) (p : Pc) : Prop :=
  (∃ k, k < xs.length ∧ p = ⟨at_ xs k, k⟩) ∨ (gmay p.c = true ∧ p.s < 0 ∧ (p.c.w = 0 ∨ p.c.pen = q))
theorem blank_may {f b : Int} (h : penMay f b = true) : gmay (blank b) = true := by
  have hb : colorMay b = true := (Bool.and_eq_true_iff.1 h).2
  have h0 : colorMay 0 = true := by decide
  have hw : (width 32 == 1) = true := by decide +kernel
  unfold gmay blank penMay
  simp only [h0, hb, hw]
  rfl
theorem gmay_pen {c : Glyph} (h : gmay c = true) : penMay c.f c.b = true := (Bool.and_eq_true_iff.1 h).1
theorem mend_row {xs : List Glyph} {q : Int × Int × Int × Int} {l : List Pc} (hr : RowOk xs) (hn : l.length = xs.length) (h : ∀ i, i < xs.length → PcOk xs q (pat l i)) : RowOk (mendP l) := by
  have hlen : (mendP l).length = xs.length := by rw [mend_len, hn]
  have hc : ∀ i, i < xs.length → gmay (pat l i).c = true := fun i hi => by
    rcases h i hi with ⟨k, hk, e⟩ | e
    · rw [e]
      exact (hr.2.2 k hk).1
    · exact e.1
  refine ⟨by rw [hlen]; exact hr.1, by rw [hlen]; exact hr.2.1, fun i hi => ?_⟩
  rw [hlen] at hi
  have key : ∀ i, i < xs.length → ((at_ (mendP l) i).w = 1 ∨ (at_ (mendP l) i).w = 2) → at_ (mendP l) i = (pat l i).c ∧ ((pat l i).c.w = 1 → i + 1 < xs.length ∧ (pat l (i + 1)).c.w = 2 ∧ (pat l (i + 1)).s = (pat l i).s + 1) ∧ ((pat l i).c.w = 2 → 0 < i ∧ (pat l (i - 1)).c.w = 1 ∧ (pat l (i - 1)).s = (pat l i).s - 1) := by
    intro i hi hw
    rw [mend_pt (by rw [hn]; exact hi)] at hw ⊢
    unfold mendF at hw ⊢
    by_cases c1 : (pat l i).c.w = 2 ∧ (i = 0 ∨ (pat l (i - 1)).c.w ≠ 1 ∨ (pat l (i - 1)).s ≠ (pat l i).s - 1)
    · rw [if_pos c1] at hw
      rcases hw with hw | hw <;> cases hw
    · rw [if_neg c1] at hw ⊢
      by_cases c2 : (pat l i).c.w = 1 ∧ (i + 1 = l.length ∨ (pat l (i + 1)).c.w ≠ 2 ∨ (pat l (i + 1)).s ≠ (pat l i).s + 1)
      · rw [if_pos c2] at hw
        rcases hw with hw | hw <;> cases hw
      · rw [if_neg c2]
        refine ⟨rfl, fun k => ?_, fun k => ?_⟩
        · exact ⟨by omega, by omega, by omega⟩
        · exact ⟨by omega, by omega, by omega⟩
  have may : ∀ i, i < xs.length → gmay (at_ (mendP l) i) = true := fun i hi => by
    rw [mend_pt (by rw [hn]; exact hi)]
    unfold mendF
    split
    · exact blank_may (gmay_pen (hc i hi))
    · split
      · exact blank_may (gmay_pen (hc i hi))
      · exact hc i hi
  have stay : ∀ i, i < xs.length → ((pat l i).c.w = 2 → 0 < i ∧ (pat l (i - 1)).c.w = 1 ∧ (pat l (i - 1)).s = (pat l i).s - 1) → ((pat l i).c.w = 1 → i + 1 < xs.length ∧ (pat l (i + 1)).c.w = 2 ∧ (pat l (i + 1)).s = (pat l i).s + 1) → at_ (mendP l) i = (pat l i).c := fun i hi h2 h1 => by
    rw [mend_pt (by rw [hn]; exact hi)]
    unfold mendF
    rw [if_neg (fun k => by have := h2 k.1; rcases k.2 with k | k | k <;> omega), if_neg (fun k => by have := h1 k.1; rcases k.2 with k | k | k <;> omega)]
  refine ⟨may i hi, fun hw => ?_, fun hw => ?_⟩
  · obtain ⟨e, k1, _⟩ := key i hi (.inl hw)
    rw [e] at hw
    obtain ⟨a1, a2, a3⟩ := k1 hw
    have e2 := stay (i + 1) a1 (fun _ => by rw [Nat.add_sub_cancel]; exact ⟨by omega, hw, by omega⟩) (fun k => by omega)
    rw [hlen, e2, e]
    refine ⟨a1, a2, ?_⟩
    rcases h i hi with ⟨k, hk, ek⟩ | ek
    · rcases h (i + 1) a1 with ⟨m, hm, em⟩ | em
      · rw [ek, em] at a3
        simp only at a3
        obtain rfl : m = k + 1 := by omega
        rw [ek, em]
        rw [ek] at hw
        exact ((hr.2.2 k hk).2.1 hw).2.2
      · rw [ek] at a3
        simp only at a3
        omega
    · rcases h (i + 1) a1 with ⟨m, hm, em⟩ | em
      · rw [em] at a3 a2
        simp only at a3 a2
        have := (pair_left hr hm a2).1
        omega
      · rw [em.2.2.resolve_left (by omega), ek.2.2.resolve_left (by omega)]
  · obtain ⟨e, _, k2⟩ := key i hi (.inr hw)
    rw [e] at hw
    obtain ⟨a1, a2, a3⟩ := k2 hw
    have e2 := stay (i - 1) (by omega) (fun k => by omega) (fun _ => by rw [Nat.sub_add_cancel a1]; exact ⟨hi, hw, by omega⟩)
    rw [e2]
    exact ⟨a1, a2⟩
theorem old_ok {xs : List Glyph} {q : Int × Int × Int × Int} {i : Nat} (h : i < xs.length) : PcOk xs q ⟨at_ xs i, i⟩ := .inl ⟨i, h, rfl⟩
theorem new_ok {xs : List Glyph} {q : Int × Int × Int × Int} {f b : Int} (h : penMay f b = true) : PcOk xs q (newPc b) := .inr ⟨blank_may h, by show (-10 : Int) < 0; omega, .inl rfl⟩
theorem erase_row {xs : List Glyph} {s t f b : Int} (h : (rowMay xs && penMay f b) = true) : RowOk (eraseP xs s t f b) := by
  obtain ⟨h1, h2⟩ := Bool.and_eq_true_iff.1 h
  rw [erase_want]
  unfold eraseW
  rw [if_pos h]
  refine mend_row (q := (0, 0, 0, 0)) (row_iff.1 h1) erasePk_len fun i hi => ?_
  rw [erasePk_pt hi]
  split
  · exact new_ok h2
  · exact old_ok hi
theorem insert_row {xs : List Glyph} {x n f b : Int} (h : (rowMay xs && penMay f b) = true) : RowOk (insertP xs x n f b) := by
  obtain ⟨h1, h2⟩ := Bool.and_eq_true_iff.1 h
  rw [insert_want]
  unfold insertW
  rw [if_pos h]
  split
  · exact row_iff.1 h1
  · obtain ⟨k, hk⟩ : ∃ k : Nat, x = k := ⟨x.toNat, by omega⟩
    obtain ⟨j, hj⟩ : ∃ j : Nat, min n (xs.length - k) = j := ⟨(min n ((xs.length : Int) - k)).toNat, by omega⟩
    obtain ⟨hl, hp⟩ := insert_pcs (b := b) hk hj (by omega) (by omega)
    refine mend_row (q := (0, 0, 0, 0)) (row_iff.1 h1) hl fun i hi => ?_
    rw [hp i hi]
    split
    · exact old_ok hi
    · split
      · exact new_ok h2
      · exact old_ok (by omega)
theorem delete_row {xs : List Glyph} {x n f b : Int} (h : (rowMay xs && penMay f b) = true) : RowOk (deleteP xs x n f b) := by
  obtain ⟨h1, h2⟩ := Bool.and_eq_true_iff.1 h
  rw [delete_want]
  unfold deleteW
  rw [if_pos h]
  split
  · exact row_iff.1 h1
  · obtain ⟨k, hk⟩ : ∃ k : Nat, x = k := ⟨x.toNat, by omega⟩
    obtain ⟨j, hj⟩ : ∃ j : Nat, min n (xs.length - k) = j := ⟨(min n ((xs.length : Int) - k)).toNat, by omega⟩
    obtain ⟨hl, hp⟩ := delete_pcs (b := b) hk hj (by omega) (by omega)
    refine mend_row (q := (0, 0, 0, 0)) (row_iff.1 h1) hl fun i hi => ?_
    rw [hp i hi]
    split
    · exact old_ok hi
    · split
      · exact old_ok (by omega)
      · exact new_ok h2
theorem put_row {xs : List Glyph} {x r f b d l : Int} (h : (rowMay xs && penMay f b) = true) : RowOk (putP xs x r f b d l) := by
  obtain ⟨h1, h2⟩ := Bool.and_eq_true_iff.1 h
  rw [put_want]
  unfold putW
  rw [if_pos h]
  refine mend_row (q := (f, b, d, l)) (row_iff.1 h1) putPc_len fun i hi => ?_
  unfold putPc
  split
  · rename_i c
    rw [pset (by rw [pieces_len]; omega), pieces_pt hi]
    split
    · refine .inr ⟨?_, by show (-10 : Int) < 0; omega, .inl rfl⟩
      unfold gmay
      simp only [h2, c.2.2]
      rfl
    · exact old_ok hi
  · split
    · rename_i c
      rw [pset (by rw [List.length_set, pieces_len]; omega), pset (by rw [pieces_len]; omega), pieces_pt hi]
      split
      · refine .inr ⟨?_, by show (-9 : Int) < 0; omega, .inr rfl⟩
        unfold gmay
        simp only [h2]
        rfl
      · split
        · refine .inr ⟨?_, by show (-10 : Int) < 0; omega, .inr rfl⟩
          unfold gmay
          simp only [h2, c.2.2]
          rfl
        · exact old_ok hi
    · rw [pieces_pt hi]
      exact old_ok hi
/-- Blanks put in and taken out again. -/
theorem shifts_pt {xs : List Glyph} {x n f b : Int} {k j i : Nat} (h : (rowMay xs && penMay f b) = true) (hx : x = k) (hn : n = j) (hj : 1 ≤ j) (hkj : k + j ≤ xs.length) (hi : i < xs.length) :
    at_ (deleteP (insertP xs x n f b) x n f b) i = if i < xs.length - j then (if (at_ xs k).w = 2 ∧ (i = k ∨ i + 1 = k) then blank (at_ xs k).b else if xs.length - j < xs.length ∧ (at_ xs (xs.length - j)).w = 2 ∧ i + 1 = xs.length - j then blank (at_ xs (xs.length - j)).b else at_ xs i) else blank b := by
  have hr := row_iff.1 (Bool.and_eq_true_iff.1 h).1
  have hI := insert_row (x := x) (n := n) h
  have hIl := insert_len (x := x) (n := n) h
  have hm : min n ((xs.length : Int) - k) = j := by omega
  obtain ⟨I, hIe⟩ : ∃ I, insertP xs x n f b = I := ⟨_, rfl⟩
  have hp : ∀ m, at_ I m = if m < k then at_ (cutP (cutP xs k) (xs.length - j)) m else if m < k + j then blank b else if m < xs.length then at_ (cutP (cutP xs k) (xs.length - j)) (m - j) else at_ (cutP (cutP xs k) (xs.length - j)) m := fun m => (congrArg (fun l => at_ l m) hIe.symm).trans (insert_pt (i := m) h hx hm (by omega) hj)
  rw [hIe] at hI hIl ⊢
  have h' : (rowMay I && penMay f b) = true := Bool.and_eq_true_iff.2 ⟨row_yes hI, (Bool.and_eq_true_iff.1 h).2⟩
  rw [delete_pt (k := k) (j := j) h' hx (by rw [hIl]; exact hm) (by omega) hj (by omega), hIl]
  have hcut : ∀ m, at_ (cutP (cutP I k) (k + j)) m = at_ I m := fun m => by
    rw [cut2_at (by omega), if_neg (fun q => ?_), if_neg (fun q => ?_)]
    · have e := q.2.2.1
      rw [hp k, if_neg (by omega), if_pos (by omega)] at e
      cases e
    · have e := q.2.2.1
      rw [hIl] at q
      rw [hp (k + j), if_neg (by omega), if_neg (by omega), if_pos q.2.1, Nat.add_sub_cancel, cut2_le (by omega)] at e
      split at e
      · cases e
      · split at e
        · cases e
        · rename_i c1 c2
          exact c2 ⟨(pair_left hr (by omega) e).1, by omega, e, .inl rfl⟩
  rw [hcut, hcut]
  by_cases h1 : i < xs.length - j
  · have e : (if i < k then at_ I i else if i < xs.length - j then at_ I (i + j) else blank b) = at_ (cutP (cutP xs k) (xs.length - j)) i := by
      by_cases h2 : i < k
      · rw [if_pos h2, hp, if_pos h2]
      · rw [if_neg h2, if_pos h1, hp, if_neg (by omega), if_neg (by omega), if_pos (by omega), Nat.add_sub_cancel]
    rw [e, if_pos h1, cut2_le (by omega)]
    by_cases c1 : (at_ xs k).w = 2 ∧ (i = k ∨ i + 1 = k)
    · have hpl := pair_left hr (by omega) c1.1
      rw [if_pos c1]
      by_cases c2 : 0 < xs.length - j ∧ xs.length - j < xs.length ∧ (at_ xs (xs.length - j)).w = 2 ∧ (i = xs.length - j ∨ i + 1 = xs.length - j)
      · rw [if_pos c2]
        have hpl2 := pair_left hr (by omega) c2.2.2.1
        rcases c1.2 with c3 | c3
        · rw [show xs.length - j - 1 = k from by omega] at hpl2
          omega
        · rw [show xs.length - j = k from by omega]
      · rw [if_neg c2, if_pos ⟨hpl.1, by omega, c1.1, c1.2⟩]
    · rw [if_neg c1]
      by_cases c2 : xs.length - j < xs.length ∧ (at_ xs (xs.length - j)).w = 2 ∧ i + 1 = xs.length - j
      · rw [if_pos c2, if_pos ⟨by omega, c2.1, c2.2.1, .inr c2.2.2⟩]
      · rw [if_neg c2, if_neg (fun q => c2 ⟨q.2.1, q.2.2.1, by omega⟩), if_neg (fun q => c1 ⟨q.2.2.1, q.2.2.2⟩)]
  · rw [if_neg h1, if_neg (by omega), if_neg h1]
end Go.Proofs.YtlhcehealjdbdaaDoor
