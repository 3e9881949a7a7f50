/- The chapter's example of grid. -/
import Derived.Test.YtlhcehealjdbdaaDoorGScroll
import Derived.Test.YtlhcehealjdbdaaDoorGCall
import Derived.Test.YtlhcehealjdbdaaDoorGNew
import Derived.Test.YtlhcehealjdbdaaDoorFixed
import Derived.Deep.DeepCutAuto
namespace Go.Proofs.YtlhcehealjdbdaaDoor
open Go.RowKit
set_option linter.unusedSimpArgs false
set_option linter.unusedVariables false
attribute [local go_sem] alloc_drewN setCell_drewN


def gA : Glyph := ⟨97, 0, 0, 0, 0, 0⟩
def gB : Glyph := ⟨98, 0, 0, 0, 0, 0⟩
def fx0 : List Glyph := [blank 0, blank 0, blank 0, blank 0, blank 0, blank 0]
def fx1 : List Glyph := [gA, blank 0, blank 0, blank 0, blank 0, blank 0]
def fx2 : List Glyph := [gA, blank 0, blank 0, blank 0, gB, blank 0]
def fx3 : List Glyph := [blank 0, gB, blank 0, blank 0, blank 0, blank 0]
theorem b3_ok : RowOk [blank 0, blank 0, blank 0] := by
  refine ⟨by decide, by decide, fun i hi => ?_⟩
  have hi : i < 3 := hi
  rcases (by omega : i = 0 ∨ i = 1 ∨ i = 2) with rfl | rfl | rfl
  all_goals exact ⟨by decide +kernel, fun k => absurd k (by decide), fun k => absurd k (by decide)⟩
theorem b3_may : (rowMay [blank 0, blank 0, blank 0] && penMay 0 0) = true := Bool.and_eq_true_iff.2 ⟨row_yes b3_ok, pen0⟩
theorem wa : width 97 = 1 := by decide +kernel
theorem wb : width 98 = 1 := by decide +kernel
theorem put_a : putP [blank 0, blank 0, blank 0] 0 97 0 0 0 0 = [gA, blank 0, blank 0] := by
  unfold putP
  rw [if_pos b3_may, wa, if_neg (by decide), if_neg (by decide)]
  decide
theorem put_b : putP [blank 0, blank 0, blank 0] 1 98 0 0 0 0 = [blank 0, gB, blank 0] := by
  unfold putP
  rw [if_pos b3_may, wb, if_neg (by decide), if_neg (by decide)]
  decide
theorem a3_ok : RowOk [gA, blank 0, blank 0] := by rw [← put_a]; exact put_row b3_may
theorem c3_ok : RowOk [blank 0, gB, blank 0] := by rw [← put_b]; exact put_row b3_may
theorem fx_grid (X : List Glyph) (h : X.length = 6) (h0 : RowOk (rowOf 3 0 X)) (h1 : RowOk (rowOf 3 1 X)) : gridMay 3 2 X = true := gmay_iff.2 ⟨3, 2, rfl, rfl, by omega, by omega, by omega, by omega, h, fun y hy => by
  rcases (by omega : y = 0 ∨ y = 1) with rfl | rfl
  · exact h0
  · exact h1⟩
theorem fx0_ok : gridMay 3 2 fx0 = true := fx_grid fx0 rfl b3_ok b3_ok
theorem fx1_ok : gridMay 3 2 fx1 = true := fx_grid fx1 rfl a3_ok b3_ok
theorem fx2_ok : gridMay 3 2 fx2 = true := fx_grid fx2 rfl a3_ok c3_ok
theorem fx_okI {X : List Glyph} {v : Int} (h : gridMay 3 2 X = true) : okI 3 2 X 0 0 v = v := by unfold okI; rw [h, pen0]; rfl
theorem fx_1 : turnP 3 2 fx0 0 0 0 (fun l' => putP l' 0 97 0 0 0 0) = fx1 := by
  unfold turnP
  rw [fx0_ok, pen0, Bool.and_true, if_pos rfl, if_pos (by decide)]
  show setRow fx0 3 0 (putP [blank 0, blank 0, blank 0] 0 97 0 0 0 0) = fx1
  rw [put_a]
  decide
theorem fx_2 : turnP 3 2 fx1 1 0 0 (fun l' => putP l' 1 98 0 0 0 0) = fx2 := by
  unfold turnP
  rw [fx1_ok, pen0, Bool.and_true, if_pos rfl, if_pos (by decide)]
  show setRow fx1 3 1 (putP [blank 0, blank 0, blank 0] 1 98 0 0 0 0) = fx2
  rw [put_b]
  decide
theorem fx_3 : scrollP 3 2 fx2 0 1 1 0 0 = fx3 := by
  unfold scrollP
  rw [fx2_ok, pen0, Bool.and_true, if_pos rfl, if_neg (by decide)]
  decide +kernel
set_option maxRecDepth 10000 in
set_option maxHeartbeats 4000000 in
theorem gfixed_any (w : World) (ht : Tabs w) : Calls Tryd.prog 33 #[] w (RVal (.bool true) w) := by
  have HT := Lib.hid ht
  clear ht
  have B0 : Hid (Below w.heap.size w w) := Below.refl _ _
  have HN := Lib.hid (new_any 3 2 w)
  go_enter Tryd.func33, Tryd.ntmps33
  go_wp2_with fail
  refine HN.out.mono ?_
  clear HN
  intro e w1 hpost
  unfold NewPost at hpost
  rw [if_pos (show fitsB 3 2 = true from by decide)] at hpost
  obtain ⟨v1, n1, rfl, hn1, r1, b1⟩ := hpost
  obtain rfl : n1 = 6 := by omega
  obtain ⟨a1, c1, rfl, l1⟩ := r1.cells
  have HC1 : Hid (Cells w1 a1 6 fx0) := l1
  have K1 : Hid (6 ≤ c1) := crow_cap (n := 6) r1 (by omega)
  have B1 : Hid (Below w.heap.size w w1) := b1
  clear r1 l1 b1 hn1
  have hl6 : (List.replicate 6 (blank 0)).length = 6 := rfl
  rw [hl6]
  go_upto_region 2 with fail
  have G2 : Hid (Own (w1.alloc (.cells #[.int .i64 3, .int .i64 2, .slice a1 6 c1] 49)) w1.heap.size 49 #[.int .i64 3, .int .i64 2, .slice a1 6 c1]) := Own.new w1 49 _
  have B2 : Hid (Below w.heap.size w (w1.alloc (.cells #[.int .i64 3, .int .i64 2, .slice a1 6 c1] 49))) := B1.out.alloc B1.out.size _
  have HC2 := Lib.hid (HC1.out.alloc (.cells #[.int .i64 3, .int .i64 2, .slice a1 6 c1] 49))
  have hgw : w.heap.size ≤ w1.heap.size := B1.out.size
  generalize w1.alloc (.cells #[.int .i64 3, .int .i64 2, .slice a1 6 c1] 49) = w2 at G2 B2 HC2 ⊢
  generalize w1.heap.size = gb at G2 hgw ⊢
  have g0 := Own.cell G2.out 0
  have g1 := Own.cell G2.out 1
  have g2 := Own.cell G2.out 2
  simp only [List.getElem?_toArray, List.getElem?_cons_zero, List.getElem?_cons_succ] at g0 g1 g2
  go_wp2_with fail
  refine (gput_any 3 2 0 0 97 0 0 0 0 a1 6 c1 fx0 _ HC2.out K1.out (HT.out.below B2.out)).mono ?_
  rw [fx_okI fx0_ok, fx_okI fx0_ok, fx_1]
  rintro e w3 ⟨v3, rfl, r3, b3⟩
  obtain ⟨a3, c3, rfl, l3⟩ := r3.cells
  rw [show fx1.length = 6 from rfl]
  have HC3 : Hid (Cells w3 a3 6 fx1) := l3
  have K3 : Hid (6 ≤ c3) := crow_cap (n := 6) r3 (by omega)
  have B3 : Hid (Below w.heap.size w w3) := B2.out.trans (b3.mono B2.out.size)
  have G3 := Lib.hid (G2.out.below b3 G2.out.lt)
  clear r3 b3 l3 g0 g1 g2
  go_wp2_with fail
  refine (gput_any 3 2 1 1 98 0 0 0 0 a3 6 c3 fx1 _ HC3.out K3.out (HT.out.below B3.out)).mono ?_
  rw [fx_okI fx1_ok, fx_okI fx1_ok, fx_2]
  rintro e w4 ⟨v4, rfl, r4, b4⟩
  obtain ⟨a4, c4, rfl, l4⟩ := r4.cells
  rw [show fx2.length = 6 from rfl]
  have HC4 : Hid (Cells w4 a4 6 fx2) := l4
  have K4 : Hid (6 ≤ c4) := crow_cap (n := 6) r4 (by omega)
  have B4 : Hid (Below w.heap.size w w4) := B3.out.trans (b4.mono B3.out.size)
  have G4 := Lib.hid (G3.out.below b4 G3.out.lt)
  have R4 := Lib.hid r4
  clear r4 b4 l4
  have hG := G4.out
  go_upto_region 3 with (first
    | (refine gvstore_list rfl _ _ rfl (c := 3) (r := 2) (sa := a4) (sn := 6) (sc := c4) rfl rfl hG ?_; intro w5 o5 k5; have G5 := Lib.hid o5; have B5 : Hid (Below w.heap.size w w5) := below_grown B4.out k5 hgw B4.out.size; have R5 := Lib.hid (crow_other R4.out k5 (by have := G3.out.lt; exact this)); clear o5 k5 hG)
    | go_in)
  (try simp only [Act.put])
  have HC5 : Hid (Cells w5 a4 6 fx2) := cells_of R5.out
  have g0 := Own.cell G5.out 0
  have g1 := Own.cell G5.out 1
  have g2 := Own.cell G5.out 2
  simp only [List.getElem?_toArray, List.getElem?_cons_zero, List.getElem?_cons_succ] at g0 g1 g2
  go_wp2_with fail
  refine (gscroll_any 3 2 0 1 1 0 0 0 0 a4 6 c4 fx2 _ HC5.out K4.out (HT.out.below B5.out)).mono ?_
  rw [fx_okI fx2_ok, fx_okI fx2_ok, fx_3]
  rintro e w6 ⟨v6, rfl, r6, b6⟩
  obtain ⟨a6, c6, rfl, l6⟩ := r6.cells
  rw [show fx3.length = 6 from rfl]
  have HC6 : Hid (Cells w6 a6 6 fx3) := l6
  have HC6' : Hid (Cells w6 a4 6 fx2) := HC5.out.below b6
  have B6 : Hid (Below w.heap.size w w6) := B5.out.trans (b6.mono B5.out.size)
  have G6 := Lib.hid (G5.out.below b6 G5.out.lt)
  clear r6 l6 b6 g0 g1 g2
  go_upto_region 4 with fail
  have H7 : Hid (Own (w6.alloc (.cells #[.int .i64 3, .int .i64 2, .slice a6 6 c6] 49)) w6.heap.size 49 #[.int .i64 3, .int .i64 2, .slice a6 6 c6]) := Own.new w6 49 _
  have B7 : Hid (Below w.heap.size w (w6.alloc (.cells #[.int .i64 3, .int .i64 2, .slice a6 6 c6] 49))) := B6.out.alloc B6.out.size _
  have HC7 := Lib.hid (HC6.out.alloc (.cells #[.int .i64 3, .int .i64 2, .slice a6 6 c6] 49))
  have HC7' := Lib.hid (HC6'.out.alloc (.cells #[.int .i64 3, .int .i64 2, .slice a6 6 c6] 49))
  have G7 := Lib.hid (G6.out.alloc (.cells #[.int .i64 3, .int .i64 2, .slice a6 6 c6] 49))
  generalize w6.alloc (.cells #[.int .i64 3, .int .i64 2, .slice a6 6 c6] 49) = w7 at H7 B7 HC7 HC7' G7 ⊢
  generalize w6.heap.size = hb at H7 ⊢
  have g0 := Own.cell G7.out 0
  have g1 := Own.cell G7.out 1
  have g2 := Own.cell G7.out 2
  simp only [List.getElem?_toArray, List.getElem?_cons_zero, List.getElem?_cons_succ] at g0 g1 g2
  have h0 := Own.cell H7.out 0
  have h1 := Own.cell H7.out 1
  have h2 := Own.cell H7.out 2
  simp only [List.getElem?_toArray, List.getElem?_cons_zero, List.getElem?_cons_succ] at h0 h1 h2
  obtain ⟨x6, o6, rfl, _, q6⟩ := HC7.out.2.2 (by omega)
  obtain ⟨x4, o4, rfl, _, q4⟩ := HC7'.out.2.2 (by omega)
  have p1 := (q6 1 (by omega)).1
  have p4 := (q6 4 (by omega)).1
  have p0 := (q4 0 (by omega)).1
  have p1 : w7.cell? ⟨x6, o6 + 6, none⟩ = some (.int .i32 98) := p1
  have p4 : w7.cell? ⟨x6, o6 + 24, none⟩ = some (.int .i32 32) := p4
  have p0 : w7.cell? ⟨x4, o4, none⟩ = some (.int .i32 97) := p0
  clear q6 q4
  go_wp2_with fail
  go_ret
  exact ⟨rfl, B7.out⟩
end Go.Proofs.YtlhcehealjdbdaaDoor
