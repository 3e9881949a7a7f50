/- Grids compared, as the document does. -/
import Derived.Test.YtlhcehealjdbdaaDoorGBase
import Derived.Deep.DeepCutAuto
namespace Go.Proofs.YtlhcehealjdbdaaDoor
open Go.RowKit
set_option linter.unusedSimpArgs false
set_option linter.unusedVariables false
attribute [local go_sem] alloc_drewN setCell_drewN


def sameG (c r c' r' : Int) (xs ys : List Glyph) : Bool := decide (c = c') && decide (r = r') && decide (xs = ys)
theorem sameG_self (c r : Int) (xs : List Glyph) : sameG c r c r xs xs = true := by unfold sameG; simp
set_option maxRecDepth 10000 in
theorem sameg_any (c r c' r' : Int) (a a' : Option Addr) (n cp n' cp' : Nat) (xs ys : List Glyph) (w : World) (hl : Cells w a n xs) (hk : Cells w a' n' ys) : Calls Tryd.prog 34 #[.agg #[.int .i64 c, .int .i64 r, .slice a n cp], .agg #[.int .i64 c', .int .i64 r', .slice a' n' cp']] w (RVal (.bool (sameG c r c' r' xs ys)) w) := by
  have HL := Lib.hid hl
  have HK := Lib.hid hk
  clear hl hk
  have B0 : Hid (Below w.heap.size w ((w.alloc (.cells #[.int .i64 c, .int .i64 r, .slice a n cp] 49)).alloc (.cells #[.int .i64 c', .int .i64 r', .slice a' n' cp'] 49))) := ((Below.refl _ _).alloc (Nat.le_refl _) _).alloc (by simp) _
  have G0 : Hid (Own ((w.alloc (.cells #[.int .i64 c, .int .i64 r, .slice a n cp] 49)).alloc (.cells #[.int .i64 c', .int .i64 r', .slice a' n' cp'] 49)) w.heap.size 49 #[.int .i64 c, .int .i64 r, .slice a n cp]) := (Own.new w 49 _).alloc _
  have H0' : Own ((w.alloc (.cells #[.int .i64 c, .int .i64 r, .slice a n cp] 49)).alloc (.cells #[.int .i64 c', .int .i64 r', .slice a' n' cp'] 49)) (w.heap.size + 1) 49 #[.int .i64 c', .int .i64 r', .slice a' n' cp'] := by
    have h := Own.new (w.alloc (.cells #[.int .i64 c, .int .i64 r, .slice a n cp] 49)) 49 #[.int .i64 c', .int .i64 r', .slice a' n' cp']
    simpa using h
  have H0 := Lib.hid H0'
  clear H0'
  have g0 := Own.cell G0.out 0
  have g1 := Own.cell G0.out 1
  have g2 := Own.cell G0.out 2
  simp only [List.getElem?_toArray, List.getElem?_cons_zero, List.getElem?_cons_succ] at g0 g1 g2
  have h0 := Own.cell H0.out 0
  have h1 := Own.cell H0.out 1
  have h2 := Own.cell H0.out 2
  simp only [List.getElem?_toArray, List.getElem?_cons_zero, List.getElem?_cons_succ] at h0 h1 h2
  cases h1' : (c == c') with
  | false =>
    have HZ : Hid (sameG c r c' r' xs ys = false) := by unfold sameG; rw [decide_eq_false (beq_eq_false_iff_ne.1 h1')]; rfl
    go_enter Tryd.func34, Tryd.ntmps34
    go_wp2_with fail
    go_ret
    exact ⟨by rw [HZ.out]; rfl, B0.out⟩
  | true =>
    cases h2' : (r == r') with
    | false =>
      have HZ : Hid (sameG c r c' r' xs ys = false) := by unfold sameG; rw [decide_eq_false (p := r = r') (beq_eq_false_iff_ne.1 h2'), Bool.and_false]; rfl
      go_enter Tryd.func34, Tryd.ntmps34
      go_wp2_with fail
      go_ret
      exact ⟨by rw [HZ.out]; rfl, B0.out⟩
    | true =>
      have HZ : Hid (sameG c r c' r' xs ys = decide (xs = ys)) := by unfold sameG; rw [decide_eq_true (eq_of_beq h1'), decide_eq_true (eq_of_beq h2')]; rfl
      go_enter Tryd.func34, Tryd.ntmps34
      go_wp2_with fail
      refine (gsame_any a a' n cp n' cp' xs ys _ (HL.out.below B0.out) (HK.out.below B0.out)).mono ?_
      rintro e w5 ⟨he5, q5, hq5⟩
      obtain rfl := he5
      have B5 : Hid (Below w.heap.size w w5) := by rw [← hq5]; exact below_drewN B0.out q5
      clear hq5
      go_wp2_with fail
      go_ret
      exact ⟨by rw [HZ.out]; rfl, B5.out⟩
end Go.Proofs.YtlhcehealjdbdaaDoor
