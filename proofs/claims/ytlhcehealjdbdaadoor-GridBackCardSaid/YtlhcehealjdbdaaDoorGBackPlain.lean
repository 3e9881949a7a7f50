/- A grid made larger and smaller again, in plain Lean. -/
import Derived.Test.YtlhcehealjdbdaaDoorGResize
import Derived.Test.YtlhcehealjdbdaaDoorGNewLaw
namespace Go.Proofs.YtlhcehealjdbdaaDoor
open Go.RowKit
set_option linter.unusedSimpArgs false
set_option linter.unusedVariables false

theorem part_at {X l : List Glyph} {d m i : Nat} (h : d + m ≤ X.length) (hm : m ≤ l.length) : at_ (partP X d l m) i = if d ≤ i ∧ i < d + m then at_ l (i - d) else at_ X i := by
  unfold at_ partP
  have l1 : (X.take d).length = d := by rw [List.length_take]; omega
  have l2 : (l.take m).length = m := by rw [List.length_take]; omega
  rw [List.getD_eq_getElem?_getD, List.getElem?_append, List.getElem?_append, List.length_append, l1, l2]
  by_cases h1 : i < d
  · rw [if_pos (by omega), if_pos h1, if_neg (by omega), List.getElem?_take, if_pos h1, ← List.getD_eq_getElem?_getD]
  · by_cases h2 : i < d + m
    · rw [if_pos h2, if_neg h1, if_pos (by omega), List.getElem?_take, if_pos (by omega), ← List.getD_eq_getElem?_getD]
    · rw [if_neg h2, if_neg (by omega), List.getElem?_drop, ← List.getD_eq_getElem?_getD]
      congr 1
      omega
theorem rz_at {C C2 R R2 : Nat} {xs : List Glyph} (hl : xs.length = C * R) (hc : 1 ≤ min C C2) (hw : ∀ z, z < R → (at_ xs (z * C + (min C C2 - 1))).w ≠ 1) : ∀ k, k ≤ R → k ≤ R2 → ∀ z j, z < R2 → j < C2 → at_ (rzF C C2 R2 xs k) (z * C2 + j) = if z < k ∧ j < min C C2 then at_ xs (z * C + j) else blank 0
  | 0, _, _, z, j, hz, hj => by
    have hm := mul_row (c := C2) hz
    rw [if_neg (by omega)]
    unfold rzF at_
    rw [List.getD_eq_getElem?_getD, List.getElem?_replicate, if_pos (by omega)]
    rfl
  | k + 1, h1, h2, z, j, hz, hj => by
    have ih := rz_at (C2 := C2) (R2 := R2) hl hc hw k (by omega) (by omega)
    have hm := mul_row (c := C2) (show k < R2 by omega)
    have hlen := rzF_len (C2 := C2) (R2 := R2) hl k (by omega) (by omega)
    have hrl : (rowOf C k xs).length = C := row_len (r := R) hl (show k < R by omega)
    obtain ⟨K, hK⟩ : ∃ K, min C C2 = K := ⟨_, rfl⟩
    rw [hK] at ih hc ⊢
    have hKC : K ≤ C := by omega
    have hKC2 : K ≤ C2 := by omega
    have hd : k * C2 + K ≤ (rzF C C2 R2 xs k).length := by rw [hlen]; omega
    have hr : K ≤ (rowOf C k xs).length := by rw [hrl]; exact hKC
    have hwk := hw k (by omega)
    rw [hK] at hwk
    have hfix : fixAt (partP (rzF C C2 R2 xs k) (k * C2) (rowOf C k xs) K) (k * C2 + K - 1) = partP (rzF C C2 R2 xs k) (k * C2) (rowOf C k xs) K := by
      unfold fixAt
      rw [if_neg]
      rw [part_at hd hr, if_pos ⟨by omega, by omega⟩, show k * C2 + K - 1 - k * C2 = K - 1 from by omega, rowAt (by omega)]
      exact hwk
    rw [rzF, hK, hfix, part_at hd hr]
    by_cases hzk : z = k
    · subst hzk
      by_cases hjK : j < K
      · rw [if_pos ⟨by omega, by omega⟩, if_pos ⟨by omega, hjK⟩, show z * C2 + j - z * C2 = j from by omega, rowAt (by omega)]
      · rw [if_neg (by omega), if_neg (by omega), ih z j hz hj, if_neg (by omega)]
    · rw [if_neg (fun h => other_row (c := C2) hzk hj ⟨h.1, by omega⟩), ih z j hz hj]
      by_cases hq : z < k ∧ j < K
      · rw [if_pos hq, if_pos ⟨by omega, hq.2⟩]
      · rw [if_neg hq, if_neg (fun h => hq ⟨by omega, h.2⟩)]
theorem row_ext {l l2 : List Glyph} (h : RowOk l) (h8 : l2.length ≤ 80) (hle : l.length ≤ l2.length) (hin : ∀ j, j < l.length → at_ l2 j = at_ l j) (hout : ∀ j, l.length ≤ j → j < l2.length → at_ l2 j = blank 0) : RowOk l2 := by
  refine ⟨by have := h.1; omega, h8, fun i hi => ?_⟩
  by_cases hj : i < l.length
  · obtain ⟨q1, q2, q3⟩ := h.2.2 i hj
    refine ⟨by rw [hin i hj]; exact q1, fun k => ?_, fun k => ?_⟩
    · rw [hin i hj] at k
      obtain ⟨a1, a2, a3⟩ := q2 k
      exact ⟨by omega, by rw [hin _ a1]; exact a2, by rw [hin _ a1, hin i hj]; exact a3⟩
    · rw [hin i hj] at k
      obtain ⟨a1, a2⟩ := q3 k
      exact ⟨a1, by rw [hin _ (by omega)]; exact a2⟩
  · have e := hout i (by omega) hi
    refine ⟨by rw [e]; decide +kernel, fun k => ?_, fun k => ?_⟩
    · rw [e] at k
      exact absurd k (by decide)
    · rw [e] at k
      exact absurd k (by decide)
theorem last_ok {l : List Glyph} (h : RowOk l) : (at_ l (l.length - 1)).w ≠ 1 := by
  intro k
  have := ((h.2.2 (l.length - 1) (by have := h.1; omega)).2.1 k).1
  omega
theorem back_ok {C R C2 R2 : Nat} {xs : List Glyph} (h : GridOk C R xs) (h1 : C ≤ C2) (h2 : R ≤ R2) (h3 : C2 ≤ 80) (h4 : R2 ≤ 24) :
    ∃ M, (∀ v, rzI C R xs C2 R2 v = v) ∧ resizeP C R xs C2 R2 = M ∧ GridOk C2 R2 M ∧ (∀ v, rzI C2 R2 M C R v = v) ∧ resizeP C2 R2 M C R = xs := by
  obtain ⟨a1, a2, a3, a4, a5, a6⟩ := h
  have m1 : gridMay C R xs = true := gmay_iff.2 ⟨C, R, rfl, rfl, a1, a2, a3, a4, a5, a6⟩
  have f1 : fitsB C2 R2 = true := fits_iff.2 ⟨by omega, by omega, by omega, by omega⟩
  have f2 : fitsB C R = true := fits_iff.2 ⟨by omega, by omega, by omega, by omega⟩
  have hmin : min C C2 = C := by omega
  have hmin2 : min C2 C = C := by omega
  have hlast : ∀ z, z < R → (at_ xs (z * C + (C - 1))).w ≠ 1 := fun z hz => by
    have k := last_ok (a6 z hz)
    rw [row_len a5 hz, rowAt (by omega)] at k
    exact k
  obtain ⟨M, hM⟩ : ∃ M, rzF C C2 R2 xs R = M := ⟨_, rfl⟩
  have hl : M.length = C2 * R2 := by rw [← hM]; exact rzF_len a5 R (by omega) h2
  have hat : ∀ z j, z < R2 → j < C2 → at_ M (z * C2 + j) = if z < R ∧ j < C then at_ xs (z * C + j) else blank 0 := fun z j hz hj => by
    have k := rz_at (C2 := C2) (R2 := R2) a5 (by omega) (by rw [hmin]; exact hlast) R (by omega) h2 z j hz hj
    rw [hmin, hM] at k
    exact k
  have hok : GridOk C2 R2 M := by
    refine ⟨by omega, h3, by omega, h4, hl, fun z hz => ?_⟩
    have hrl := row_len hl hz
    by_cases hzR : z < R
    · refine row_ext (a6 z hzR) (by rw [hrl]; exact h3) (by rw [hrl, row_len a5 hzR]; exact h1) (fun j hj => ?_) (fun j hj hj2 => ?_)
      · rw [row_len a5 hzR] at hj
        rw [rowAt (by omega), hat z j hz (by omega), if_pos ⟨hzR, hj⟩, rowAt hj]
      · rw [row_len a5 hzR] at hj
        rw [hrl] at hj2
        rw [rowAt hj2, hat z j hz hj2, if_neg (by omega)]
    · have e : rowOf C2 z M = List.replicate C2 (blank 0) := by
        refine gext (by rw [hrl, List.length_replicate]) fun j hj => ?_
        rw [hrl] at hj
        show at_ (rowOf C2 z M) j = _
        rw [rowAt hj, hat z j hz hj, if_neg (by omega), List.getD_eq_getElem?_getD, List.getElem?_replicate, if_pos hj]
        rfl
      rw [e]
      have q := (rep_grid (show 1 ≤ C2 by omega) h3 (show 1 ≤ 1 by omega) (by omega)).2.2.2.2.2 0 (by omega)
      unfold rowOf at q
      rw [Nat.zero_mul, List.drop_zero, Nat.mul_one, List.take_of_length_le (by rw [List.length_replicate]; exact Nat.le_refl _)] at q
      exact q
  have m2 : gridMay C2 R2 M = true := gmay_iff.2 ⟨C2, R2, rfl, rfl, hok⟩
  refine ⟨M, fun v => ?_, ?_, hok, fun v => ?_, ?_⟩
  · unfold rzI
    rw [f1, m1]
    rfl
  · unfold resizeP
    rw [f1, m1, Bool.true_and, if_pos rfl]
    simp only [Int.toNat_natCast]
    rw [show min R R2 = R from by omega]
    exact hM
  · unfold rzI
    rw [f2, m2]
    rfl
  · unfold resizeP
    rw [f2, m2, Bool.true_and, if_pos rfl]
    simp only [Int.toNat_natCast]
    rw [show min R2 R = R from by omega]
    have hw2 : ∀ z, z < R2 → (at_ M (z * C2 + (C - 1))).w ≠ 1 := fun z hz => by
      rw [hat z _ hz (by omega)]
      split
      · rename_i q
        exact hlast z q.1
      · decide
    refine gext ?_ fun i hi => ?_
    · rw [rzF_len hl R h2 (Nat.le_refl _)]
      exact a5.symm
    · rw [rzF_len hl R h2 (Nat.le_refl _)] at hi
      have hy : i / C < R := Nat.div_lt_of_lt_mul hi
      have hj : i % C < C := Nat.mod_lt _ a1
      have e : i = i / C * C + i % C := by rw [Nat.mul_comm]; exact (Nat.div_add_mod i C).symm
      obtain ⟨z, hz⟩ : ∃ z, i / C = z := ⟨_, rfl⟩
      obtain ⟨j, hj0⟩ : ∃ j, i % C = j := ⟨_, rfl⟩
      rw [hz] at hy e
      rw [hj0] at hj e
      have k := rz_at (C := C2) (C2 := C) (R2 := R) hl (by omega) (by rw [hmin2]; exact hw2) R h2 (Nat.le_refl _) z j hy hj
      rw [hmin2, if_pos ⟨hy, hj⟩, hat z j (by omega) (by omega), if_pos ⟨hy, hj⟩, ← e] at k
      exact k
end Go.Proofs.YtlhcehealjdbdaaDoor
