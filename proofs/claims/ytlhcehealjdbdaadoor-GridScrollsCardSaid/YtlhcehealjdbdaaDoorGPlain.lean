/- Grids as data. -/
import Derived.Test.YtlhcehealjdbdaaDoorMended2
namespace Go.Proofs.YtlhcehealjdbdaaDoor
open Go.RowKit
set_option linter.unusedSimpArgs false
set_option linter.unusedVariables false

/-- A row of a grid. -/
def rowOf (c y : Nat) (xs : List Glyph) : List Glyph := (xs.drop (y * c)).take c
def GridOk (c r : Nat) (xs : List Glyph) : Prop := 1 ≤ c ∧ c ≤ 80 ∧ 1 ≤ r ∧ r ≤ 24 ∧ xs.length = c * r ∧ ∀ y, y < r → RowOk (rowOf c y xs)
def fitsB (c r : Int) : Bool := decide (1 ≤ c) && decide (c ≤ 80) && decide (1 ≤ r) && decide (r ≤ 24)
theorem fits_iff {c r : Int} : fitsB c r = true ↔ 1 ≤ c ∧ c ≤ 80 ∧ 1 ≤ r ∧ r ≤ 24 := by
  unfold fitsB
  simp [and_assoc]
noncomputable def gridMay (c r : Int) (xs : List Glyph) : Bool := fitsB c r && @decide (GridOk c.toNat r.toNat xs) (Classical.propDecidable _)
theorem gmay_iff {c r : Int} {xs : List Glyph} : gridMay c r xs = true ↔ ∃ C R : Nat, c = C ∧ r = R ∧ GridOk C R xs := by
  constructor
  · intro h
    obtain ⟨h1, h2⟩ := Bool.and_eq_true_iff.1 h
    have h1 := fits_iff.1 h1
    exact ⟨c.toNat, r.toNat, by omega, by omega, @of_decide_eq_true _ (Classical.propDecidable _) h2⟩
  · rintro ⟨C, R, rfl, rfl, h⟩
    refine Bool.and_eq_true_iff.2 ⟨fits_iff.2 ⟨?_, ?_, ?_, ?_⟩, @decide_eq_true _ (Classical.propDecidable _) (by rw [Int.toNat_natCast, Int.toNat_natCast]; exact h)⟩
    · have := h.1; omega
    · have := h.2.1; omega
    · have := h.2.2.1; omega
    · have := h.2.2.2.1; omega
theorem gmay_no {c r : Int} {xs : List Glyph} (h : ¬ ∃ C R : Nat, c = C ∧ r = R ∧ GridOk C R xs) : gridMay c r xs = false := Bool.eq_false_iff.2 fun k => h (gmay_iff.1 k)
theorem mul_row {y r c : Nat} (h : y < r) : y * c + c ≤ c * r := by
  have := Nat.mul_le_mul_left c (show y + 1 ≤ r from h)
  rw [Nat.mul_add, Nat.mul_comm c y] at this
  omega
theorem mul_bound {c r : Nat} (h1 : c ≤ 80) (h2 : r ≤ 24) : c * r ≤ 1920 := Nat.mul_le_mul h1 h2
theorem row_len {c y r : Nat} {xs : List Glyph} (hl : xs.length = c * r) (hy : y < r) : (rowOf c y xs).length = c := by
  unfold rowOf
  rw [List.length_take, List.length_drop]
  have := mul_row (c := c) hy
  omega
theorem rowAt {c y i : Nat} {xs : List Glyph} (hi : i < c) : at_ (rowOf c y xs) i = at_ xs (y * c + i) := by
  unfold at_ rowOf
  rw [List.getD_eq_getElem?_getD, List.getElem?_take, if_pos hi, List.getElem?_drop, ← List.getD_eq_getElem?_getD]
/-- A row laid into a grid. -/
def setRow (xs : List Glyph) (c y : Nat) (l : List Glyph) : List Glyph := xs.take (y * c) ++ l ++ xs.drop (y * c + c)
theorem setRow_len {xs l : List Glyph} {c y r : Nat} (hl : xs.length = c * r) (hy : y < r) (h : l.length = c) : (setRow xs c y l).length = c * r := by
  unfold setRow
  have := mul_row (c := c) hy
  rw [List.length_append, List.length_append, List.length_take, List.length_drop, h]
  omega
theorem setRow_at {xs l : List Glyph} {c y r i : Nat} (hl : xs.length = c * r) (hy : y < r) (h : l.length = c) : at_ (setRow xs c y l) i = if y * c ≤ i ∧ i < y * c + c then at_ l (i - y * c) else at_ xs i := by
  have hm := mul_row (c := c) hy
  unfold at_ setRow
  have l1 : (xs.take (y * c)).length = y * c := by rw [List.length_take]; omega
  rw [List.getD_eq_getElem?_getD, List.getElem?_append, List.getElem?_append, List.length_append, l1, h]
  by_cases h1 : i < y * c
  · rw [if_pos (by omega), if_pos h1, if_neg (by omega), List.getElem?_take, if_pos h1, ← List.getD_eq_getElem?_getD]
  · by_cases h2 : i < y * c + c
    · rw [if_pos h2, if_neg h1, if_pos (by omega), ← List.getD_eq_getElem?_getD]
    · rw [if_neg h2, if_neg (by omega), List.getElem?_drop, ← List.getD_eq_getElem?_getD]
      congr 1
      omega
theorem other_row {c y z i : Nat} (h : z ≠ y) (hi : i < c) : ¬ (y * c ≤ z * c + i ∧ z * c + i < y * c + c) := by
  rintro ⟨h1, h2⟩
  rcases Nat.lt_or_ge z y with k | k
  · have := Nat.mul_le_mul_right c (show z + 1 ≤ y from k)
    rw [Nat.add_mul] at this
    omega
  · have := Nat.mul_le_mul_right c (show y + 1 ≤ z from by omega)
    rw [Nat.add_mul] at this
    omega
theorem rowOf_set {xs l : List Glyph} {c y z r : Nat} (hl : xs.length = c * r) (hy : y < r) (hz : z < r) (h : l.length = c) : rowOf c z (setRow xs c y l) = if z = y then l else rowOf c z xs := by
  have hsl := setRow_len hl hy h
  refine gext ?_ fun j hj => ?_
  · rw [row_len hsl hz]
    split
    · exact h.symm
    · exact (row_len hl hz).symm
  · rw [row_len hsl hz] at hj
    show at_ (rowOf c z _) j = at_ _ j
    rw [rowAt hj, setRow_at hl hy h]
    by_cases hzy : z = y
    · subst hzy
      rw [if_pos rfl, if_pos ⟨by omega, by omega⟩, show z * c + j - z * c = j from by omega]
    · rw [if_neg hzy, if_neg (other_row hzy hj), rowAt hj]
/-- Grids are the same if their rows are. -/
theorem grid_ext {xs ys : List Glyph} {c r : Nat} (h1 : xs.length = c * r) (h2 : ys.length = c * r) (h : ∀ y, y < r → rowOf c y xs = rowOf c y ys) : xs = ys := by
  refine gext (h1.trans h2.symm) fun j hj => ?_
  rw [h1] at hj
  have hc : 0 < c := by
    rcases Nat.eq_zero_or_pos c with e | e
    · subst e
      omega
    · exact e
  have hy : j / c < r := Nat.div_lt_of_lt_mul hj
  have hi : j % c < c := Nat.mod_lt _ hc
  have e : j = j / c * c + j % c := by rw [Nat.mul_comm]; exact (Nat.div_add_mod j c).symm
  have k := congrArg (fun l => at_ l (j % c)) (h _ hy)
  simp only [rowAt hi] at k
  rw [← e] at k
  exact k
theorem set_ok {xs l : List Glyph} {c y r : Nat} (h : GridOk c r xs) (hy : y < r) (hn : l.length = c) (hl : RowOk l) : GridOk c r (setRow xs c y l) := by
  obtain ⟨a1, a2, a3, a4, a5, a6⟩ := h
  refine ⟨a1, a2, a3, a4, setRow_len a5 hy hn, fun z hz => ?_⟩
  rw [rowOf_set a5 hy hz hn]
  split
  · exact hl
  · exact a6 z hz
/-- The row's cells in memory. -/
theorem cells_part {w : World} {g off n : Nat} {xs : List Glyph} (h : Cells w (some ⟨g, off, none⟩) n xs) {s m : Nat} (hm : s + m ≤ n) : Cells w (some ⟨g, off + s * 6, none⟩) m ((xs.drop s).take m) := by
  have hl := h.1
  refine ⟨by rw [List.length_take, List.length_drop]; omega, by have := h.2.1; omega, fun h0 => ?_⟩
  obtain ⟨b, o, he, hb, hc⟩ := h.2.2 (by omega)
  injection he with he
  injection he with e1 e2
  subst e1 e2
  refine ⟨g, _, rfl, hb, fun i hi => ?_⟩
  have := hc (s + i) (by omega)
  have e : ((xs.drop s).take m).getD i g0 = xs.getD (s + i) g0 := by
    rw [List.getD_eq_getElem?_getD, List.getElem?_take, if_pos hi, List.getElem?_drop, ← List.getD_eq_getElem?_getD]
  rw [e, show off + s * 6 + i * 6 = off + (s + i) * 6 from by omega]
  exact this
end Go.Proofs.YtlhcehealjdbdaaDoor
