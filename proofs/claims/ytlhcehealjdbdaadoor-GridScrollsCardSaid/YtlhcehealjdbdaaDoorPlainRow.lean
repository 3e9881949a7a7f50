/- Which rows may be: what the document says, and what the program asks, in plain Lean. -/
import Derived.Test.YtlhcehealjdbdaaDoorMay
namespace Go.Proofs.YtlhcehealjdbdaaDoor
open Go.RowKit

def Glyph.pen (c : Glyph) : Int × Int × Int × Int := (c.f, c.b, c.a, c.l)
def at_ (xs : List Glyph) (i : Nat) : Glyph := xs.getD i g0
/-- The cell fits where it stands. -/
def CellOk (xs : List Glyph) (i : Nat) : Prop := gmay (at_ xs i) = true ∧ ((at_ xs i).w = 1 → i + 1 < xs.length ∧ (at_ xs (i + 1)).w = 2 ∧ (at_ xs (i + 1)).pen = (at_ xs i).pen) ∧ ((at_ xs i).w = 2 → 0 < i ∧ (at_ xs (i - 1)).w = 1)
def RowOk (xs : List Glyph) : Prop := 1 ≤ xs.length ∧ xs.length ≤ 80 ∧ ∀ i, i < xs.length → CellOk xs i
noncomputable def rowMay (xs : List Glyph) : Bool := @decide (RowOk xs) (Classical.propDecidable _)
theorem row_yes {xs : List Glyph} (h : RowOk xs) : rowMay xs = true := by unfold rowMay; exact @decide_eq_true _ (Classical.propDecidable _) h
theorem row_no {xs : List Glyph} (h : ¬ RowOk xs) : rowMay xs = false := by unfold rowMay; exact @decide_eq_false _ (Classical.propDecidable _) h
theorem row_iff {xs : List Glyph} : rowMay xs = true ↔ RowOk xs := ⟨fun h => by unfold rowMay at h; exact @of_decide_eq_true _ (Classical.propDecidable _) h, row_yes⟩
/-- The cell fits behind the one ahead of it. -/
def BackOk (xs : List Glyph) (i : Nat) : Prop := gmay (at_ xs i) = true ∧ ((0 < i ∧ (at_ xs (i - 1)).w = 1) ↔ (at_ xs i).w = 2) ∧ (0 < i → (at_ xs (i - 1)).w = 1 → (at_ xs (i - 1)).pen = (at_ xs i).pen)
theorem row_back {xs : List Glyph} (h1 : 1 ≤ xs.length) (h2 : xs.length ≤ 80) : RowOk xs ↔ (∀ i, i < xs.length → BackOk xs i) ∧ (at_ xs (xs.length - 1)).w ≠ 1 := by
  constructor
  · intro h
    refine ⟨fun i hi => ⟨(h.2.2 i hi).1, ⟨fun k => ?_, fun k => (h.2.2 i hi).2.2 k⟩, fun k0 k1 => ?_⟩, fun k => ?_⟩
    · have := ((h.2.2 (i - 1) (by omega)).2.1 k.2).2.1
      rwa [Nat.sub_add_cancel k.1] at this
    · have := ((h.2.2 (i - 1) (by omega)).2.1 k1).2.2
      rw [Nat.sub_add_cancel k0] at this
      exact this.symm
    · have := ((h.2.2 (xs.length - 1) (by omega)).2.1 k).1
      omega
  · rintro ⟨h, hl⟩
    refine ⟨h1, h2, fun i hi => ⟨(h i hi).1, fun k => ?_, fun k => (h i hi).2.1.2 k⟩⟩
    have hi1 : i + 1 < xs.length := by
      rcases Nat.lt_or_ge (i + 1) xs.length with q | q
      · exact q
      · have : i = xs.length - 1 := by omega
        subst this
        exact absurd k hl
    have hb := h (i + 1) hi1
    rw [BackOk, Nat.add_sub_cancel] at hb
    exact ⟨hi1, hb.2.1.1 ⟨by omega, k⟩, (hb.2.2 (by omega) k).symm⟩
theorem pen_eq (x y : Glyph) : (decide (x.pen = y.pen)) = (x.f == y.f && x.b == y.b && x.a == y.a && x.l == y.l) := by
  rw [Bool.eq_iff_iff]
  simp [Glyph.pen, and_assoc]
theorem pneq (x y : Glyph) (W : World) : (binOp .neq 26 (.agg #[.int .u32 x.f, .int .u32 x.b, .int .u8 x.a, .int .u16 x.l]) (.agg #[.int .u32 y.f, .int .u32 y.b, .int .u8 y.a, .int .u16 y.l])).run Tryd.prog W = .ok (.bool (!decide (x.pen = y.pen))) W := by
  rw [pen_eq]
  go_simp
  by_cases h2 : x.f = y.f <;> by_cases h3 : x.b = y.b <;> by_cases h4 : x.a = y.a <;> by_cases h5 : x.l = y.l <;> simp [h2, h3, h4, h5]
theorem pneq_yes {x y : Glyph} (h : x.pen ≠ y.pen) (W : World) : (binOp .neq 26 (.agg #[.int .u32 x.f, .int .u32 x.b, .int .u8 x.a, .int .u16 x.l]) (.agg #[.int .u32 y.f, .int .u32 y.b, .int .u8 y.a, .int .u16 y.l])).run Tryd.prog W = .ok (.bool true) W := by rw [pneq, decide_eq_false h]; rfl
theorem pneq_no {x y : Glyph} (h : x.pen = y.pen) (W : World) : (binOp .neq 26 (.agg #[.int .u32 x.f, .int .u32 x.b, .int .u8 x.a, .int .u16 x.l]) (.agg #[.int .u32 y.f, .int .u32 y.b, .int .u8 y.a, .int .u16 y.l])).run Tryd.prog W = .ok (.bool false) W := by rw [pneq, decide_eq_true h]; rfl
end Go.Proofs.YtlhcehealjdbdaaDoor
