/- A grid scrolled up and down again, in plain Lean. -/
import Derived.Test.YtlhcehealjdbdaaDoorGScroll
namespace Go.Proofs.YtlhcehealjdbdaaDoor
open Go.RowKit
set_option linter.unusedSimpArgs false
set_option linter.unusedVariables false

theorem rep_row {C : Nat} {b f : Int} (h1 : 1 ≤ C) (h8 : C ≤ 80) (hp : penMay f b = true) : RowOk (List.replicate C (blank b)) := by
  have hat : ∀ i, i < C → at_ (List.replicate C (blank b)) i = blank b := fun i hi => by
    unfold at_
    rw [List.getD_eq_getElem?_getD, List.getElem?_replicate, if_pos hi]
    rfl
  refine ⟨by simpa using h1, by simpa using h8, fun i hi => ?_⟩
  have hi' : i < C := by simpa using hi
  unfold CellOk
  rw [hat i hi']
  exact ⟨blank_may hp, fun k => (by cases k), fun k => (by cases k)⟩
section
variable {C R T B : Nat} {xs : List Glyph} {n f b : Int}
theorem new_row_ok (h : GridOk C R xs) (hp : penMay f b = true) (hb : B < R) (z : Nat) : RowOk (newRow C xs T B n b z) := by
  unfold newRow
  split
  · rename_i q
    exact h.2.2.2.2.2 _ (by omega)
  · exact rep_row h.1 h.2.1 hp
theorem scrF_ok (h : GridOk C R xs) (hp : penMay f b = true) (hb : B < R) : ∀ k : Nat, T + k ≤ R → GridOk C R (scrF C xs T B n b k)
  | 0, _ => h
  | k + 1, hk => by
    rw [scrF, Int.toNat_natCast]
    exact set_ok (scrF_ok h hp hb k (by omega)) (by omega) (newRow_len h.2.2.2.2.1 (by omega) (by omega)) (new_row_ok h hp hb _)
theorem scrF_row (hl : xs.length = C * R) (hb : B < R) : ∀ k : Nat, T + k ≤ R → ∀ z, z < R → rowOf C z (scrF C xs T B n b k) = if T ≤ z ∧ z < T + k then newRow C xs T B n b z else rowOf C z xs
  | 0, _, z, hz => by
    rw [if_neg (by omega)]
    rfl
  | k + 1, hk, z, hz => by
    have hl2 := scrF_len (C := C) (xs := xs) (top := T) (bot := B) (n := n) (b := b) hl (by omega) (by omega) k (by rw [Int.toNat_natCast]; omega)
    rw [scrF, Int.toNat_natCast, rowOf_set hl2 (by omega) hz (newRow_len hl (by omega) (by omega)), scrF_row hl hb k (by omega) z hz]
    by_cases hq : z = T + k
    · subst hq
      rw [if_pos rfl, if_pos ⟨by omega, by omega⟩]
    · rw [if_neg hq]
      by_cases hr : T ≤ z ∧ z < T + k
      · rw [if_pos hr, if_pos ⟨hr.1, by omega⟩]
      · rw [if_neg hr, if_neg (by omega)]
end
theorem scr_back {C R T B N : Nat} {xs : List Glyph} {f b : Int} (h : GridOk C R xs) (hp : penMay f b = true) (h1 : T ≤ B) (h2 : B < R) (hn : 1 ≤ N) :
    ∃ M1 M2, scrollP C R xs T B N f b = M1 ∧ GridOk C R M1 ∧ scrollP C R M1 T B (-(N : Int)) f b = M2 ∧ GridOk C R M2 ∧ ∀ z, z < R → rowOf C z M2 = if T ≤ z ∧ z ≤ B ∧ z < T + N then List.replicate C (blank b) else rowOf C z xs := by
  obtain ⟨H, hH⟩ : ∃ H, B - T + 1 = H := ⟨_, rfl⟩
  obtain ⟨m, hm⟩ : ∃ m, min N H = m := ⟨_, rfl⟩
  have ok0 : (gridMay C R xs && penMay f b) = true := by rw [gmay_iff.2 ⟨C, R, rfl, rfl, h⟩, hp]; rfl
  have e1 : scrollP C R xs T B N f b = scrF C xs T B m b H := by
    unfold scrollP
    rw [if_pos ok0, if_neg (by omega), Int.toNat_natCast]
    rw [show ((B : Int) - T + 1).toNat = H from by omega, show max (-((B : Int) - T + 1)) (min (N : Int) ((B : Int) - T + 1)) = (m : Int) from by omega]
  have g1 : GridOk C R (scrF C xs T B m b H) := scrF_ok h hp h2 H (by omega)
  have r1 := fun z hz => scrF_row (n := m) (b := b) (T := T) h.2.2.2.2.1 h2 H (by omega) z hz
  refine ⟨_, _, e1, g1, rfl, ?_⟩
  obtain ⟨M1, hM1⟩ : ∃ M1, scrF C xs T B m b H = M1 := ⟨_, rfl⟩
  rw [hM1] at g1 r1 ⊢
  have ok1 : (gridMay C R M1 && penMay f b) = true := by rw [gmay_iff.2 ⟨C, R, rfl, rfl, g1⟩, hp]; rfl
  have e2 : scrollP C R M1 T B (-(N : Int)) f b = scrF C M1 T B (-(m : Int)) b H := by
    unfold scrollP
    rw [if_pos ok1, if_neg (by omega), Int.toNat_natCast]
    rw [show ((B : Int) - T + 1).toNat = H from by omega, show max (-((B : Int) - T + 1)) (min (-(N : Int)) ((B : Int) - T + 1)) = -(m : Int) from by omega]
  rw [e2]
  refine ⟨scrF_ok g1 hp h2 H (by omega), fun z hz => ?_⟩
  rw [scrF_row g1.2.2.2.2.1 h2 H (by omega) z hz]
  by_cases hq : T ≤ z ∧ z < T + H
  · rw [if_pos hq]
    unfold newRow
    by_cases hs : T + m ≤ z
    · rw [if_pos ⟨by omega, by omega⟩, if_neg (by omega)]
      obtain ⟨y, hy⟩ : ∃ y, z = y + m := ⟨z - m, by omega⟩
      rw [show ((z : Int) + -(m : Int)).toNat = y from by omega, r1 y (by omega), if_pos ⟨by omega, by omega⟩]
      unfold newRow
      rw [if_pos ⟨by omega, by omega⟩]
      congr 1
      omega
    · rw [if_neg (by omega), if_pos ⟨by omega, by omega, by omega⟩]
  · rw [if_neg hq, r1 z hz, if_neg hq, if_neg (by omega)]
end Go.Proofs.YtlhcehealjdbdaaDoor
