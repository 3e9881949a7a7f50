/- The chapter's example. -/
import Derived.Test.YtlhcehealjdbdaaDoorPut
import Derived.Deep.DeepCutAuto
namespace Go.Proofs.YtlhcehealjdbdaaDoor
open Go.RowKit
set_option linter.unusedSimpArgs false
set_option linter.unusedVariables false
attribute [local go_sem] alloc_drewN setCell_drewN


def rowL : List Glyph := [blank 0, blank 0, blank 0, blank 0]
def rowW : List Glyph := [blank 0, ⟨19968, 1, 0, 0, 0, 0⟩, ⟨0, 2, 0, 0, 0, 0⟩, blank 0]
def rowN : List Glyph := [blank 0, blank 0, ⟨97, 0, 0, 0, 0, 0⟩, blank 0]
theorem rowL_ok : RowOk rowL := ⟨by decide, by decide, fun i hi => by
  rcases (by simp [rowL] at hi; omega : i = 0 ∨ i = 1 ∨ i = 2 ∨ i = 3) with rfl | rfl | rfl | rfl <;> (unfold CellOk; decide +kernel)⟩
theorem rowW_ok : RowOk rowW := ⟨by decide, by decide, fun i hi => by
  rcases (by simp [rowW] at hi; omega : i = 0 ∨ i = 1 ∨ i = 2 ∨ i = 3) with rfl | rfl | rfl | rfl <;> (unfold CellOk; decide +kernel)⟩
theorem wide1 : width 19968 = 2 := by decide +kernel
theorem wide2 : width 97 = 1 := by decide +kernel
theorem pen0 : penMay 0 0 = true := by decide +kernel
theorem fix1 : putP rowL 1 19968 0 0 0 0 = rowW := by
  unfold putP
  rw [row_yes rowL_ok, pen0, wide1]
  decide +kernel
theorem fix2 : putP rowW 2 97 0 0 0 0 = rowN := by
  unfold putP
  rw [row_yes rowW_ok, pen0, wide2]
  decide +kernel
theorem fix3 : putP rowL 3 19968 0 0 0 0 = rowL := by
  unfold putP
  rw [row_yes rowL_ok, pen0, wide1]
  decide +kernel
theorem crow_new (w : World) (xs : List Glyph) (n : Nat) (hn : xs.length = n) (hm : n ≤ 1000) : CRow (w.alloc (.cells (flat xs).toArray 28)) w.heap.size (.slice (some ⟨w.heap.size, 0, none⟩) n n) xs := by
  subst hn
  refine ⟨flat_len xs, .inr ⟨w.heap.size, xs.length, _, rfl, Nat.le_refl _, heap_alloc_new w _, Nat.le_refl _, by unfold maxLen; omega, by simp [flat_len], ?_⟩⟩
  show List.take (xs.length * 6) (flat xs) = flat xs
  exact List.take_of_length_le (by rw [flat_len]; exact Nat.le_refl _)
set_option maxRecDepth 10000 in
set_option maxHeartbeats 2000000 in
theorem fixed_any (w : World) (ht : Tabs w) : Calls Tryd.prog 14 #[] w (RVal (.bool true) w) := by
  have HT := Lib.hid ht
  clear ht
  go_enter Tryd.func14, Tryd.ntmps14
  go_wp2_with fail
  refine (blank_any 0 0 0 0 _).mono ?_
  rintro e w1 ⟨rfl, b1⟩
  have B1 : Hid (Below w.heap.size w w1) := b1
  clear b1
  go_wp2_with fail
  refine (blank_any 0 0 0 0 _).mono ?_
  rintro e w2 ⟨rfl, b2⟩
  have B2 : Hid (Below w.heap.size w w2) := B1.out.trans (b2.mono B1.out.size)
  clear b2
  go_wp2_with fail
  refine (blank_any 0 0 0 0 _).mono ?_
  rintro e w3 ⟨rfl, b3⟩
  have B3 : Hid (Below w.heap.size w w3) := B2.out.trans (b3.mono B2.out.size)
  clear b3
  go_wp2_with fail
  refine (blank_any 0 0 0 0 _).mono ?_
  rintro e w4 ⟨rfl, b4⟩
  have B4 : Hid (Below w.heap.size w w4) := B3.out.trans (b4.mono B3.out.size)
  clear b4
  go_wp2_with fail
  have R5 : Hid (CRow (w4.alloc (.cells (flat rowL).toArray 28)) w4.heap.size (.slice (some ⟨w4.heap.size, 0, none⟩) 4 4) rowL) := crow_new w4 rowL 4 rfl (by decide)
  have B5 : Hid (Below w.heap.size w (w4.alloc (.cells (flat rowL).toArray 28))) := B4.out.alloc B4.out.size _
  change Calls _ _ _ (w4.alloc (.cells (flat rowL).toArray 28)) _
  generalize w4.alloc (.cells (flat rowL).toArray 28) = w5 at R5 B5 ⊢
  obtain ⟨gl, hgl⟩ : ∃ gl, w4.heap.size = gl := ⟨_, rfl⟩
  rw [hgl] at R5 ⊢
  clear hgl
  have H6 := put_any (some ⟨gl, 0, none⟩) 4 4 1 19968 0 0 0 0 rowL w5 (cells_of R5.out) (HT.out.below B5.out)
  rw [fix1] at H6
  refine H6.mono ?_
  rintro e w6 ⟨v6, rfl, r6, b6⟩
  obtain ⟨ga, gc, hv6, _⟩ := r6.cells
  obtain rfl : v6 = .slice ga 4 gc := hv6
  have B6 : Hid (Below w.heap.size w w6) := B5.out.trans (b6.mono B5.out.size)
  have R6 : Hid (CRow w6 w5.heap.size (.slice ga 4 gc) rowW) := r6
  have L6 := Lib.hid (R5.out.below b6)
  clear H6 r6 b6
  go_wp2_with fail
  have H7 := put_any ga 4 gc 2 97 0 0 0 0 rowW w6 (cells_of R6.out) (HT.out.below B6.out)
  rw [fix2] at H7
  refine H7.mono ?_
  rintro e w7 ⟨v7, rfl, r7, b7⟩
  obtain ⟨na, nc, hv7, _⟩ := r7.cells
  obtain rfl : v7 = .slice na 4 nc := hv7
  have B7 : Hid (Below w.heap.size w w7) := B6.out.trans (b7.mono B6.out.size)
  have N7 : Hid (CRow w7 w6.heap.size (.slice na 4 nc) rowN) := r7
  have W7 := Lib.hid (R6.out.below b7)
  have L7 := Lib.hid (L6.out.below b7)
  clear H7 r7 b7
  obtain ⟨gw, rfl⟩ := crow_addr W7.out (by decide)
  obtain ⟨gn, rfl⟩ := crow_addr N7.out (by decide)
  obtain ⟨_, a1, _⟩ := (crow_at W7.out (k := 1) (by decide)).1
  obtain ⟨_, a2, _⟩ := (crow_at W7.out (k := 2) (by decide)).1
  obtain ⟨c0, c1, c2, c3, c4, c5⟩ := (crow_at N7.out (k := 1) (by decide)).1
  obtain ⟨d0, _⟩ := (crow_at N7.out (k := 2) (by decide)).1
  obtain ⟨l0, l1, l2, l3, l4, l5⟩ := (crow_at L7.out (k := 1) (by decide)).1
  simp only [rowW, rowN, rowL, blank, List.getD_cons_succ, List.getD_cons_zero, Nat.reduceMul, Nat.reduceAdd] at a1 a2 c0 c1 c2 c3 c4 c5 d0 l0 l1 l2 l3 l4 l5
  go_wp2_with fail
  have B7D : Hid (Below w.heap.size w w7.drew) := below_drewN B7.out 1
  have L7D : Hid (CRow w7.drew gl (.slice (some ⟨gl, 0, none⟩) 4 4) rowL) := L7.out
  refine wp_region_bits [(0, true), (1, true), (2, true), (3, true), (4, true), (5, true), (6, true), (7, true), (8, true), (9, true), (10, true), (11, true), (12, true), (13, true), (14, true), (15, true), (16, true), (17, true), (18, true), (19, true), (20, true), (21, true), (22, true), (23, true), (24, true), (25, true), (26, true), (27, true), (28, true), (29, true), (30, true), (31, true), (32, true), (33, true), (34, true), (35, true), (36, true), (37, true), (38, true), (39, true), (40, true), (42, true), (41, false), (43, false), (44, true), (45, true)] [] (by kernel_rfl) (by kernel_rfl) (fun c a d v w h => by cases d <;> exact h) ?_
  simp only [bits_, bitOf, List.getElem?_cons_zero, List.getElem?_cons_succ, List.contains_nil]
  repeat (first | (refine bits_take (v := ?_) (by rfl) ?_ ?_; rotate_left; (· intro w' hS; go_simp; (repeat (rw [hS.at_]; rotate_left; (· go_simp); go_simp)); (try (go_ints; try go_simp)); with_reducible rfl); (try simp only [Act.put, List.setIfInBounds_toArray, List.set_cons_zero, List.set_cons_succ])) | (refine bits_skip (by rfl) ?_; (try simp only [Act.put, List.setIfInBounds_toArray, List.set_cons_zero, List.set_cons_succ])))
  refine bits_eff (by rfl) (fun K hK => ?_)
  go_simp
  (try go_ints)
  have H8 := put_any (some ⟨gl, 0, none⟩) 4 4 3 19968 0 0 0 0 rowL w7.drew (cells_of L7D.out) (HT.out.below B7D.out)
  rw [fix3] at H8
  refine H8.mono ?_
  rintro e w8 ⟨v8, rfl, r8, b8⟩
  obtain ⟨pa, pc, hv8, _⟩ := r8.cells
  obtain rfl : v8 = .slice pa 4 pc := hv8
  have B8 : Hid (Below w.heap.size w w8) := B7D.out.trans (b8.mono B7D.out.size)
  have R8 : Hid (CRow w8 w7.drew.heap.size (.slice pa 4 pc) rowL) := r8
  have L8 := Lib.hid (L7D.out.below b8)
  clear H8 r8
  refine hK _ _ ?_ ?_
  · repeat (first | (with_reducible (first | exact Keep.refl _ | refine Keep.left _ ?_ | refine Keep.drew ?_ | refine Keep.drewN ?_ _ | refine Keep.alloc ?_ _)) | (refine Keep.below ?_ (by with_reducible assumption)))
  clear hK K
  (try simp only [Act.put, List.setIfInBounds_toArray, List.set_cons_zero, List.set_cons_succ])
  repeat (first | (refine bits_take (v := ?_) (by rfl) ?_ ?_; rotate_left; (· intro w' hS; go_simp; (repeat (rw [hS.at_]; rotate_left; (· go_simp); go_simp)); (try (go_ints; try go_simp)); with_reducible rfl); (try simp only [Act.put, List.setIfInBounds_toArray, List.set_cons_zero, List.set_cons_succ])) | (refine bits_skip (by rfl) ?_; (try simp only [Act.put, List.setIfInBounds_toArray, List.set_cons_zero, List.set_cons_succ])))
  refine bits_eff (by rfl) (fun K hK => ?_)
  go_simp
  (try go_ints)
  refine (gsame_any pa (some ⟨gl, 0, none⟩) 4 pc 4 4 rowL rowL _ (cells_of R8.out) (cells_of L8.out)).mono ?_
  rintro e w9 ⟨rfl, q9, rfl⟩
  refine hK _ _ ?_ ?_
  · repeat (first | (with_reducible (first | exact Keep.refl _ | refine Keep.left _ ?_ | refine Keep.drew ?_ | refine Keep.drewN ?_ _ | refine Keep.alloc ?_ _)) | (refine Keep.below ?_ (by with_reducible assumption)))
  clear hK K
  (try simp only [Act.put, List.setIfInBounds_toArray, List.set_cons_zero, List.set_cons_succ])
  repeat (first | (refine bits_take (v := ?_) (by rfl) ?_ ?_; rotate_left; (· intro w' hS; go_simp; (repeat (rw [hS.at_]; rotate_left; (· go_simp); go_simp)); (try (go_ints; try go_simp)); with_reducible rfl); (try simp only [Act.put, List.setIfInBounds_toArray, List.set_cons_zero, List.set_cons_succ])) | (refine bits_skip (by rfl) ?_; (try simp only [Act.put, List.setIfInBounds_toArray, List.set_cons_zero, List.set_cons_succ])))
  refine bits_nil ?_
  go_wp2_with fail
  go_ret
  exact ⟨rfl, below_drewN B8.out _⟩
end Go.Proofs.YtlhcehealjdbdaaDoor
