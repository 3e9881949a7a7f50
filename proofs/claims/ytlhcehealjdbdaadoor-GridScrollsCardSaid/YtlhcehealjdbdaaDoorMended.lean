/- The document's answer in plain Lean: pieces and where they stood, mended; it is what the program's calls leave. -/
import Derived.Test.YtlhcehealjdbdaaDoorPoints
namespace Go.Proofs.YtlhcehealjdbdaaDoor
open Go.RowKit
set_option linter.unusedSimpArgs false
set_option linter.unusedVariables false

/-- A cell, and where it stood. -/
structure Pc where
  c : Glyph
  s : Int
  deriving DecidableEq
def p0 : Pc := ⟨g0, 0⟩
def pat (l : List Pc) (i : Nat) : Pc := l.getD i p0
def mendF (l : List Pc) (i : Nat) : Glyph :=
  if (pat l i).c.w = 2 ∧ (i = 0 ∨ (pat l (i - 1)).c.w ≠ 1 ∨ (pat l (i - 1)).s ≠ (pat l i).s - 1) then blank (pat l i).c.b
  else if (pat l i).c.w = 1 ∧ (i + 1 = l.length ∨ (pat l (i + 1)).c.w ≠ 2 ∨ (pat l (i + 1)).s ≠ (pat l i).s + 1) then blank (pat l i).c.b
  else (pat l i).c
def mendP (l : List Pc) : List Glyph := (List.range l.length).map (mendF l)
theorem mend_len (l : List Pc) : (mendP l).length = l.length := by simp [mendP]
theorem mend_pt {l : List Pc} {i : Nat} (h : i < l.length) : at_ (mendP l) i = mendF l i := by
  unfold at_ mendP
  rw [List.getD_eq_getElem?_getD, List.getElem?_map, List.getElem?_range h]
  rfl
section
variable {xs : List Glyph} {l : List Pc} {i k : Nat}
theorem mend_new0 (h : (pat l i).c.w = 0) : mendF l i = (pat l i).c := by
  unfold mendF
  rw [if_neg (by omega), if_neg (by omega)]
theorem mend_keep (hr : RowOk xs) (hk : k < xs.length) (hl : pat l i = ⟨at_ xs k, k⟩) (h1 : (at_ xs k).w = 1 → i + 1 ≠ l.length ∧ pat l (i + 1) = ⟨at_ xs (k + 1), ((k + 1 : Nat) : Int)⟩) (h2 : (at_ xs k).w = 2 → i ≠ 0 ∧ pat l (i - 1) = ⟨at_ xs (k - 1), ((k - 1 : Nat) : Int)⟩) : mendF l i = at_ xs k := by
  unfold mendF
  rw [hl]
  have ho := hr.2.2 k hk
  rw [if_neg (fun q => ?_), if_neg (fun q => ?_)]
  · obtain ⟨a1, a2⟩ := h1 q.1
    have a3 := (ho.2.1 q.1).2.1
    have a4 := q.2
    rw [a2] at a4
    simp only at a4
    rcases a4 with a4 | a4 | a4
    · exact a1 a4
    · exact a4 a3
    · omega
  · obtain ⟨a1, a2⟩ := h2 q.1
    have a3 := (ho.2.2 q.1)
    have a4 := q.2
    rw [a2] at a4
    simp only at a4
    rcases a4 with a4 | a4 | a4
    · exact a1 a4
    · exact a4 a3.2
    · omega
theorem mend_cutR (hl : pat l i = ⟨at_ xs k, k⟩) (h1 : (at_ xs k).w = 1) (h2 : i + 1 = l.length ∨ (pat l (i + 1)).s ≠ (k : Int) + 1) : mendF l i = blank (at_ xs k).b := by
  unfold mendF
  rw [hl]
  simp only
  rw [if_neg (by omega), if_pos ⟨h1, by rcases h2 with h2 | h2; exact .inl h2; exact .inr (.inr h2)⟩]
theorem mend_cutL (hl : pat l i = ⟨at_ xs k, k⟩) (h1 : (at_ xs k).w = 2) (h2 : i = 0 ∨ (pat l (i - 1)).s ≠ (k : Int) - 1) : mendF l i = blank (at_ xs k).b := by
  unfold mendF
  rw [hl]
  simp only
  rw [if_pos ⟨h1, by rcases h2 with h2 | h2; exact .inl h2; exact .inr (.inr h2)⟩]
/-- The halves of a letter stand side by side. -/
theorem pair_left (hr : RowOk xs) (h : i < xs.length) (h2 : (at_ xs i).w = 2) : 0 < i ∧ (at_ xs (i - 1)).w = 1 ∧ (at_ xs (i - 1)).b = (at_ xs i).b := by
  obtain ⟨a, b⟩ := (hr.2.2 i h).2.2 h2
  have c := ((hr.2.2 (i - 1) (by omega)).2.1 b).2.2
  rw [Nat.sub_add_cancel a] at c
  exact ⟨a, b, by injection c with _ c; injection c with c _; exact c.symm⟩
theorem pair_right (hr : RowOk xs) (h : i < xs.length) (h1 : (at_ xs i).w = 1) : i + 1 < xs.length ∧ (at_ xs (i + 1)).w = 2 ∧ (at_ xs (i + 1)).b = (at_ xs i).b := by
  obtain ⟨a, b, c⟩ := (hr.2.2 i h).2.1 h1
  exact ⟨a, b, by injection c with _ c; injection c with c _⟩
/-- New cells laid from S up to T. -/
theorem mend_out (hr : RowOk xs) {S T : Nat} (hST : S < T) (hT : T ≤ xs.length) (hn : l.length = xs.length) (hin : ∀ i, S ≤ i → i < T → (pat l i).s < -1) (hout : ∀ i, i < xs.length → (i < S ∨ T ≤ i) → pat l i = ⟨at_ xs i, i⟩) (hi : i < xs.length) (ho : i < S ∨ T ≤ i) :
    mendF l i = if T < xs.length ∧ (at_ xs T).w = 2 ∧ i = T then blank (at_ xs T).b else if 0 < S ∧ (at_ xs S).w = 2 ∧ i + 1 = S then blank (at_ xs S).b else at_ xs i := by
  by_cases h1 : T < xs.length ∧ (at_ xs T).w = 2 ∧ i = T
  · rw [if_pos h1]
    obtain ⟨h0, h1, rfl⟩ := h1
    refine mend_cutL (hout i hi ho) h1 (.inr ?_)
    have := hin (i - 1) (by omega) (by omega)
    omega
  · rw [if_neg h1]
    by_cases h2 : 0 < S ∧ (at_ xs S).w = 2 ∧ i + 1 = S
    · rw [if_pos h2]
      obtain ⟨h3, h4, rfl⟩ := h2
      have hp := pair_left hr (by omega) h4
      rw [Nat.add_sub_cancel] at hp
      rw [← hp.2.2]
      refine mend_cutR (hout i hi ho) hp.2.1 (.inr ?_)
      have := hin (i + 1) (by omega) (by omega)
      omega
    · rw [if_neg h2]
      refine mend_keep hr hi (hout i hi ho) (fun q => ?_) (fun q => ?_)
      · have hp := pair_right hr hi q
        refine ⟨by omega, hout (i + 1) hp.1 ?_⟩
        rcases ho with ho | ho
        · by_cases e : i + 1 = S
          · exact absurd ⟨by omega, by rw [← e]; exact hp.2.1, e⟩ h2
          · omega
        · omega
      · have hp := pair_left hr hi q
        refine ⟨by omega, hout (i - 1) (by omega) ?_⟩
        rcases ho with ho | ho
        · omega
        · by_cases e : i = T
          · subst e
            exact absurd ⟨hi, q, rfl⟩ h1
          · omega
end
def piecesP (xs : List Glyph) : List Pc := (List.range xs.length).map fun i => ⟨at_ xs i, i⟩
theorem pieces_len (xs : List Glyph) : (piecesP xs).length = xs.length := by simp [piecesP]
theorem pieces_pt {xs : List Glyph} {i : Nat} (h : i < xs.length) : pat (piecesP xs) i = ⟨at_ xs i, i⟩ := by
  unfold pat piecesP
  rw [List.getD_eq_getElem?_getD, List.getElem?_map, List.getElem?_range h]
  rfl
theorem pset {l : List Pc} {k i : Nat} {d : Pc} (hk : k < l.length) : pat (l.set k d) i = if i = k then d else pat l i := by
  unfold pat
  by_cases h : i = k
  · subst h
    rw [if_pos rfl, List.getD_eq_getElem?_getD, List.getElem?_set_self hk]
    rfl
  · rw [if_neg h, List.getD_eq_getElem?_getD, List.getElem?_set_ne (fun e => h e.symm), ← List.getD_eq_getElem?_getD]
/-- Nothing new: the row stays. -/
theorem mend_same {xs : List Glyph} (hr : RowOk xs) : mendP (piecesP xs) = xs := by
  refine gext (by rw [mend_len, pieces_len]) fun j hj => ?_
  rw [mend_len, pieces_len] at hj
  show at_ (mendP (piecesP xs)) j = at_ xs j
  rw [mend_pt (by rw [pieces_len]; exact hj)]
  refine mend_keep hr hj (pieces_pt hj) (fun q => ?_) (fun q => ?_)
  · have hp := pair_right hr hj q
    exact ⟨by rw [pieces_len]; omega, pieces_pt hp.1⟩
  · have hp := pair_left hr hj q
    exact ⟨by omega, pieces_pt (by omega)⟩
/-- The pieces of each call. -/
def putPc (xs : List Glyph) (x r f b d l : Int) : List Pc :=
  if 0 ≤ x ∧ x < xs.length ∧ width r = 1 then (piecesP xs).set x.toNat ⟨⟨r, 0, f, b, d, l⟩, -10⟩
  else if 0 ≤ x ∧ x < (xs.length : Int) - 1 ∧ width r = 2 then ((piecesP xs).set x.toNat ⟨⟨r, 1, f, b, d, l⟩, -10⟩).set (x.toNat + 1) ⟨⟨0, 2, f, b, d, l⟩, -9⟩
  else piecesP xs
/-- What erase leaves of the pieces behind k places. -/
def erasePk (xs : List Glyph) (s t b : Int) (k : Nat) : List Pc := (List.range xs.length).map fun i => if i < k ∧ s ≤ i ∧ (i : Int) < t then ⟨blank b, -10⟩ else ⟨at_ xs i, i⟩
def newPc (b : Int) : Pc := ⟨blank b, -10⟩
def insertPc (xs : List Glyph) (x n b : Int) : List Pc := (piecesP xs).take x.toNat ++ List.replicate (min n (xs.length - x)).toNat (newPc b) ++ ((piecesP xs).drop x.toNat).take (xs.length - x.toNat - (min n (xs.length - x)).toNat)
def deletePc (xs : List Glyph) (x n b : Int) : List Pc := (piecesP xs).take x.toNat ++ (piecesP xs).drop (x.toNat + (min n (xs.length - x)).toNat) ++ List.replicate (min n (xs.length - x)).toNat (newPc b)
noncomputable def putW (xs : List Glyph) (x r f b d l : Int) : List Glyph := if (rowMay xs && penMay f b) = true then mendP (putPc xs x r f b d l) else []
noncomputable def eraseW (xs : List Glyph) (s t f b : Int) : List Glyph := if (rowMay xs && penMay f b) = true then mendP (erasePk xs s t b xs.length) else []
noncomputable def insertW (xs : List Glyph) (x n f b : Int) : List Glyph := if (rowMay xs && penMay f b) = true then if x < 0 ∨ xs.length ≤ x ∨ n < 1 then xs else mendP (insertPc xs x n b) else []
noncomputable def deleteW (xs : List Glyph) (x n f b : Int) : List Glyph := if (rowMay xs && penMay f b) = true then if x < 0 ∨ xs.length ≤ x ∨ n < 1 then xs else mendP (deletePc xs x n b) else []
section
variable {xs : List Glyph} {x r f b d l s t n : Int}
theorem erasePk_pt {k i : Nat} (h : i < xs.length) : pat (erasePk xs s t b k) i = if i < k ∧ s ≤ i ∧ (i : Int) < t then ⟨blank b, -10⟩ else ⟨at_ xs i, i⟩ := by
  unfold pat erasePk
  rw [List.getD_eq_getElem?_getD, List.getElem?_map, List.getElem?_range h]
  rfl
theorem erasePk_len {k : Nat} : (erasePk xs s t b k).length = xs.length := by simp [erasePk]
theorem erase_zero : erasePk xs s t b 0 = piecesP xs := by
  unfold erasePk piecesP
  refine List.map_congr_left fun i _ => ?_
  rw [if_neg (by omega)]
theorem erase_want : eraseP xs s t f b = eraseW xs s t f b := by
  by_cases h : (rowMay xs && penMay f b) = true
  · have hr := row_iff.1 (Bool.and_eq_true_iff.1 h).1
    unfold eraseW
    rw [if_pos h]
    by_cases hge : min t xs.length ≤ max 0 s
    · have e : eraseP xs s t f b = xs := by unfold eraseP; rw [if_pos h, if_pos hge]
      have e2 : erasePk xs s t b xs.length = piecesP xs := by
        unfold erasePk piecesP
        refine List.map_congr_left fun i hi => ?_
        have hi : i < xs.length := by simpa using hi
        rw [if_neg (by omega)]
      rw [e, e2, mend_same hr]
    · obtain ⟨S, hS⟩ : ∃ S : Nat, max 0 s = S := ⟨(max 0 s).toNat, by omega⟩
      obtain ⟨T, hT⟩ : ∃ T : Nat, min t xs.length = T := ⟨(min t xs.length).toNat, by omega⟩
      have hl : (erasePk xs s t b xs.length).length = xs.length := erasePk_len
      refine gext (by rw [erase_len h, mend_len, hl]) fun j hj => ?_
      rw [erase_len h] at hj
      show at_ (eraseP xs s t f b) j = at_ (mendP _) j
      rw [mend_pt (by rw [hl]; exact hj), erase_pt h hS hT (by omega) hj]
      by_cases hin : S ≤ j ∧ j < T
      · have e : pat (erasePk xs s t b xs.length) j = ⟨blank b, -10⟩ := by rw [erasePk_pt hj, if_pos (by omega)]
        rw [if_pos hin, mend_new0 (by rw [e]; rfl), e]
      · rw [if_neg hin, mend_out hr (S := S) (T := T) (by omega) (by omega) hl (fun i h1 h2 => ?_) (fun i h1 h2 => ?_) hj (by omega)]
        · rw [erasePk_pt (by omega), if_pos (by omega)]
          show (-10 : Int) < -1
          omega
        · rw [erasePk_pt h1, if_neg (by omega)]
  · unfold eraseP eraseW
    rw [if_neg h, if_neg h]
theorem putPc_len : (putPc xs x r f b d l).length = xs.length := by
  unfold putPc
  split
  · rw [List.length_set, pieces_len]
  · split
    · rw [List.length_set, List.length_set, pieces_len]
    · rw [pieces_len]
theorem put_want : putP xs x r f b d l = putW xs x r f b d l := by
  by_cases h : (rowMay xs && penMay f b) = true
  · have hr := row_iff.1 (Bool.and_eq_true_iff.1 h).1
    have hw := width_or r
    unfold putW
    rw [if_pos h]
    by_cases h0 : x < 0 ∨ width r = 0 ∨ (xs.length : Int) - width r < x
    · have e : putP xs x r f b d l = xs := by unfold putP; rw [if_pos h, if_pos h0]
      have e2 : putPc xs x r f b d l = piecesP xs := by unfold putPc; rw [if_neg (by omega), if_neg (by omega)]
      rw [e, e2, mend_same hr]
    · obtain ⟨k, rfl⟩ : ∃ k : Nat, x = k := ⟨x.toNat, by omega⟩
      refine gext (by rw [put_len h, mend_len, putPc_len]) fun j hj => ?_
      rw [put_len h] at hj
      show at_ (putP xs k r f b d l) j = at_ (mendP _) j
      rw [mend_pt (by rw [putPc_len]; exact hj)]
      have hlen : (putPc xs k r f b d l).length = xs.length := putPc_len
      rcases (by omega : width r = 1 ∨ width r = 2) with w1 | w2
      · have hpt : ∀ i, i < xs.length → pat (putPc xs k r f b d l) i = if i = k then ⟨⟨r, 0, f, b, d, l⟩, -10⟩ else ⟨at_ xs i, i⟩ := fun i hi => by
          unfold putPc
          rw [if_pos (by omega), Int.toNat_natCast, pset (by rw [pieces_len]; omega), pieces_pt hi]
        have e : at_ (putP xs k r f b d l) j = if j = k then ⟨r, 0, f, b, d, l⟩ else at_ (cutP (cutP xs k) (k + 1)) j := by
          unfold putP
          rw [if_pos h, if_neg h0, if_neg (by omega), Int.toNat_natCast, at_setT (by rw [cutP_len, cutP_len]; omega)]
        rw [e]
        by_cases hjk : j = k
        · rw [if_pos hjk, mend_new0 (by rw [hpt j hj, if_pos hjk]), hpt j hj, if_pos hjk]
        · rw [if_neg hjk, mend_out hr (S := k) (T := k + 1) (by omega) (by omega) hlen (fun i h1 h2 => by rw [hpt i (by omega), if_pos (by omega)]; show (-10 : Int) < -1; omega) (fun i h1 h2 => by rw [hpt i h1, if_neg (by omega)]) hj (by omega), cut2_at (by omega)]
          by_cases c1 : k + 1 < xs.length ∧ (at_ xs (k + 1)).w = 2 ∧ j = k + 1
          · rw [if_pos c1, if_pos ⟨by omega, c1.1, c1.2.1, .inl c1.2.2⟩]
          · rw [if_neg c1, if_neg (fun q => c1 ⟨q.2.1, q.2.2.1, by rcases q.2.2.2 with q | q <;> omega⟩)]
            by_cases c2 : 0 < k ∧ (at_ xs k).w = 2 ∧ j + 1 = k
            · rw [if_pos c2, if_pos ⟨c2.1, by omega, c2.2.1, .inr c2.2.2⟩]
            · rw [if_neg c2, if_neg (fun q => c2 ⟨q.1, q.2.2.1, by rcases q.2.2.2 with q | q <;> omega⟩)]
      · have hk2 : k + 1 < xs.length := by omega
        have hpt : ∀ i, i < xs.length → pat (putPc xs k r f b d l) i = if i = k + 1 then ⟨⟨0, 2, f, b, d, l⟩, -9⟩ else if i = k then ⟨⟨r, 1, f, b, d, l⟩, -10⟩ else ⟨at_ xs i, i⟩ := fun i hi => by
          unfold putPc
          rw [if_neg (by omega), if_pos (by omega), Int.toNat_natCast, pset (by rw [List.length_set, pieces_len]; omega), pset (by rw [pieces_len]; omega), pieces_pt hi]
        have e : at_ (putP xs k r f b d l) j = if j = k + 1 then ⟨0, 2, f, b, d, l⟩ else if j = k then ⟨r, 1, f, b, d, l⟩ else at_ (cutP (cutP xs k) (k + 2)) j := by
          unfold putP
          rw [if_pos h, if_neg h0, if_pos w2, Int.toNat_natCast, at_setT (by rw [List.length_set, cutP_len, cutP_len]; omega), at_setT (by rw [cutP_len, cutP_len]; omega)]
        rw [e]
        by_cases hj1 : j = k + 1
        · rw [if_pos hj1]
          have e0 := hpt j hj
          rw [if_pos hj1] at e0
          have e1 := hpt (j - 1) (by omega)
          rw [if_neg (by omega), if_pos (by omega)] at e1
          unfold mendF
          rw [e0, e1]
          simp only
          rw [if_neg (fun q => by rcases q.2 with q | q | q <;> omega), if_neg (by omega)]
        · rw [if_neg hj1]
          by_cases hjk : j = k
          · rw [if_pos hjk]
            have e0 := hpt j hj
            rw [if_neg hj1, if_pos hjk] at e0
            have e1 := hpt (j + 1) (by omega)
            rw [if_pos (by omega)] at e1
            unfold mendF
            rw [e0, e1]
            simp only
            rw [if_neg (by omega), if_neg (fun q => by rcases q.2 with q | q | q <;> omega)]
          · rw [if_neg hjk, mend_out hr (S := k) (T := k + 2) (by omega) (by omega) hlen (fun i h1 h2 => by
                rw [hpt i (by omega)]
                split
                · show (-9 : Int) < -1
                  omega
                · rw [if_pos (by omega)]
                  show (-10 : Int) < -1
                  omega) (fun i h1 h2 => by rw [hpt i h1, if_neg (by omega), if_neg (by omega)]) hj (by omega), cut2_at (by omega)]
            by_cases c1 : k + 2 < xs.length ∧ (at_ xs (k + 2)).w = 2 ∧ j = k + 2
            · rw [if_pos c1, if_pos ⟨by omega, c1.1, c1.2.1, .inl c1.2.2⟩]
            · rw [if_neg c1, if_neg (fun q => c1 ⟨q.2.1, q.2.2.1, by rcases q.2.2.2 with q | q <;> omega⟩)]
              by_cases c2 : 0 < k ∧ (at_ xs k).w = 2 ∧ j + 1 = k
              · rw [if_pos c2, if_pos ⟨c2.1, by omega, c2.2.1, .inr c2.2.2⟩]
              · rw [if_neg c2, if_neg (fun q => c2 ⟨q.1, q.2.2.1, by rcases q.2.2.2 with q | q <;> omega⟩)]
  · unfold putP putW
    rw [if_neg h, if_neg h]
end
end Go.Proofs.YtlhcehealjdbdaaDoor
