/- Which colours, cells and rows may be: the law's walk. -/
import Derived.Test.YtlhcehealjdbdaaDoorFixed
import Derived.Deep.DeepCutAuto
namespace Go.Proofs.YtlhcehealjdbdaaDoor
open Go.RowKit
set_option linter.unusedSimpArgs false
set_option linter.unusedVariables false
attribute [local go_sem] alloc_drewN setCell_drewN


set_option maxRecDepth 10000 in
set_option maxHeartbeats 2000000 in
theorem cellmay_walk (k : Int) (x : Glyph) (a : Option Addr) (n c : Nat) (xs : List Glyph) (w : World) (hl : Cells w a n xs) (ht : Tabs w) : Calls Tryd.prog 3 #[.int .u32 k, (.agg #[.int .i32 x.r, .int .u8 x.w, .int .u32 x.f, .int .u32 x.b, .int .u8 x.a, .int .u16 x.l]), .slice a n c] w (RVal (.bool true) w) := by
  obtain rfl := hl.1
  have HL := Lib.hid hl
  have HT := Lib.hid ht
  have hn := hl.2.1
  clear hl ht
  have B0 : Hid (Below w.heap.size w (w.alloc (.cells #[.int .i32 x.r, .int .u8 x.w, .int .u32 x.f, .int .u32 x.b, .int .u8 x.a, .int .u16 x.l] 28))) := (Below.refl _ _).alloc (Nat.le_refl _) _
  have P0 : Hid (Own (w.alloc (.cells #[.int .i32 x.r, .int .u8 x.w, .int .u32 x.f, .int .u32 x.b, .int .u8 x.a, .int .u16 x.l] 28)) w.heap.size 28 #[.int .i32 x.r, .int .u8 x.w, .int .u32 x.f, .int .u32 x.b, .int .u8 x.a, .int .u16 x.l]) := Own.new w 28 _
  have hlt : w.heap.size < (w.alloc (.cells #[.int .i32 x.r, .int .u8 x.w, .int .u32 x.f, .int .u32 x.b, .int .u8 x.a, .int .u16 x.l] 28)).heap.size := by simp
  by_cases hb : 1000 < xs.length
  · have hd : decide ((1000 : Int) < xs.length) = true := decide_eq_true (by omega)
    go_enter Tryd.func3, Tryd.ntmps3
    go_wp2_with fail
    refine (fixed_any _ (HT.out.below B0.out)).mono ?_
    rintro e w1 ⟨rfl, b1⟩
    have B1 : Hid (Below w.heap.size w w1) := B0.out.trans (b1.mono B0.out.size)
    clear b1
    go_wp2_with fail
    go_ret
    exact ⟨rfl, B1.out⟩
  · have hd : decide ((1000 : Int) < xs.length) = false := decide_eq_false (by omega)
    go_enter Tryd.func3, Tryd.ntmps3
    go_wp2_with fail
    generalize w.alloc (.cells #[.int .i32 x.r, .int .u8 x.w, .int .u32 x.f, .int .u32 x.b, .int .u8 x.a, .int .u16 x.l] 28) = w0 at B0 P0 hlt ⊢
    refine (gcopy_any a xs.length c xs _ (HL.out.below B0.out) (by omega)).mono ?_
    rintro e w1 ⟨v1, rfl, r1, b1⟩
    obtain ⟨oa, oc, rfl, _⟩ := r1.cells
    have B1 : Hid (Below w.heap.size w w1) := B0.out.trans (b1.mono B0.out.size)
    have P1 := Lib.hid (P0.out.below b1 hlt)
    have hlt1 : w.heap.size < w1.heap.size := Nat.lt_of_lt_of_le hlt b1.size
    have R1 := Lib.hid r1
    clear r1 b1
    go_wp2_with fail
    obtain ⟨cb, hcb⟩ : ∃ cb, colorMay k = cb := ⟨_, rfl⟩
    obtain ⟨mb, hmb⟩ : ∃ mb, gmay x = mb := ⟨_, rfl⟩
    obtain ⟨rb, hrb⟩ : ∃ rb, rowMay xs = rb := ⟨_, rfl⟩
    have HCB := Lib.hid hcb
    have HMB := Lib.hid hmb
    have HRB := Lib.hid hrb
    have hcc : (cb == cb) = true := by simp
    have hmm : (mb == mb) = true := by simp
    have hrr : (rb == rb) = true := by simp
    have e0 := Own.cell P1.out 0
    have e1 := Own.cell P1.out 1
    have e2 := Own.cell P1.out 2
    have e3 := Own.cell P1.out 3
    have e4 := Own.cell P1.out 4
    have e5 := Own.cell P1.out 5
    simp only [List.getElem?_toArray, List.getElem?_cons_zero, List.getElem?_cons_succ] at e0 e1 e2 e3 e4 e5
    have W0 : Hid (Below w.heap.size w w1.drew) := below_drewN B1.out 1
    have R0 : Hid (CRow w1.drew w0.heap.size (.slice oa xs.length oc) xs) := R1.out
    clear hcb hmb hrb
    refine wp_region_bits [(0, false), (1, true), (2, true), (4, true), (3, false), (5, false), (6, true), (7, true), (8, true), (9, true), (11, true), (10, false), (12, false), (13, true), (14, true), (15, true), (16, true), (18, true), (17, false), (19, false), (20, true), (21, true), (22, true), (23, true), (24, true), (26, true), (27, true), (25, false), (28, false), (29, true), (30, true), (31, true), (32, true), (33, true), (34, false), (35, true), (36, true)] [] (by kernel_rfl) (by kernel_rfl) (fun c a d v w h => by cases d <;> exact h) ?_
    simp only [bits_, bitOf, List.getElem?_cons_zero, List.getElem?_cons_succ, List.contains_nil]
    repeat (first | (refine bits_take (v := ?_) (by rfl) ?_ ?_; rotate_left; (· intro w' hS; go_simp; (repeat (rw [hS.at_]; rotate_left; (· go_simp); go_simp)); (try (go_ints; try go_simp)); with_reducible rfl); (try simp only [Act.put, List.setIfInBounds_toArray, List.set_cons_zero, List.set_cons_succ])) | (refine bits_skip (by rfl) ?_; (try simp only [Act.put, List.setIfInBounds_toArray, List.set_cons_zero, List.set_cons_succ])))
    refine bits_eff (by rfl) (fun K hK => ?_)
    go_simp
    (try go_ints)
    refine (fixed_any _ (HT.out.below W0.out)).mono ?_
    rintro e y1 ⟨rfl, b1⟩
    have W1 : Hid (Below w.heap.size w y1) := W0.out.trans (b1.mono W0.out.size)
    have R1_ := Lib.hid (R0.out.below b1)
    refine hK _ _ ?_ ?_
    · repeat (first | (with_reducible (first | exact Keep.refl _ | refine Keep.left _ ?_ | refine Keep.drew ?_ | refine Keep.drewN ?_ _ | refine Keep.alloc ?_ _)) | (refine Keep.below ?_ (by with_reducible assumption)))
    clear hK K
    (try simp only [Act.put, List.setIfInBounds_toArray, List.set_cons_zero, List.set_cons_succ])
    repeat (first | (refine bits_take (v := ?_) (by rfl) ?_ ?_; rotate_left; (· intro w' hS; go_simp; (repeat (rw [hS.at_]; rotate_left; (· go_simp); go_simp)); (try (go_ints; try go_simp)); with_reducible rfl); (try simp only [Act.put, List.setIfInBounds_toArray, List.set_cons_zero, List.set_cons_succ])) | (refine bits_skip (by rfl) ?_; (try simp only [Act.put, List.setIfInBounds_toArray, List.set_cons_zero, List.set_cons_succ])))
    refine bits_eff (by rfl) (fun K hK => ?_)
    go_simp
    (try go_ints)
    refine (RVal.as (color_any k _) (congrArg Value.bool HCB.out)).mono ?_
    rintro e y2 ⟨rfl, b2⟩
    have W2 : Hid (Below w.heap.size w y2) := W1.out.trans (b2.mono W1.out.size)
    have R2_ := Lib.hid (R1_.out.below b2)
    refine hK _ _ ?_ ?_
    · repeat (first | (with_reducible (first | exact Keep.refl _ | refine Keep.left _ ?_ | refine Keep.drew ?_ | refine Keep.drewN ?_ _ | refine Keep.alloc ?_ _)) | (refine Keep.below ?_ (by with_reducible assumption)))
    clear hK K
    (try simp only [Act.put, List.setIfInBounds_toArray, List.set_cons_zero, List.set_cons_succ])
    repeat (first | (refine bits_take (v := ?_) (by rfl) ?_ ?_; rotate_left; (· intro w' hS; go_simp; (repeat (rw [hS.at_]; rotate_left; (· go_simp); go_simp)); (try (go_ints; try go_simp)); with_reducible rfl); (try simp only [Act.put, List.setIfInBounds_toArray, List.set_cons_zero, List.set_cons_succ])) | (refine bits_skip (by rfl) ?_; (try simp only [Act.put, List.setIfInBounds_toArray, List.set_cons_zero, List.set_cons_succ])))
    refine bits_eff (by rfl) (fun K hK => ?_)
    go_simp
    (try go_ints)
    refine (RVal.as (ref_color_any k _) (congrArg Value.bool HCB.out)).mono ?_
    rintro e y3 ⟨rfl, b3⟩
    have W3 : Hid (Below w.heap.size w y3) := W2.out.trans (b3.mono W2.out.size)
    have R3_ := Lib.hid (R2_.out.below b3)
    refine hK _ _ ?_ ?_
    · repeat (first | (with_reducible (first | exact Keep.refl _ | refine Keep.left _ ?_ | refine Keep.drew ?_ | refine Keep.drewN ?_ _ | refine Keep.alloc ?_ _)) | (refine Keep.below ?_ (by with_reducible assumption)))
    clear hK K
    (try simp only [Act.put, List.setIfInBounds_toArray, List.set_cons_zero, List.set_cons_succ])
    repeat (first | (refine bits_take (v := ?_) (by rfl) ?_ ?_; rotate_left; (· intro w' hS; go_simp; (repeat (rw [hS.at_]; rotate_left; (· go_simp); go_simp)); (try (go_ints; try go_simp)); with_reducible rfl); (try simp only [Act.put, List.setIfInBounds_toArray, List.set_cons_zero, List.set_cons_succ])) | (refine bits_skip (by rfl) ?_; (try simp only [Act.put, List.setIfInBounds_toArray, List.set_cons_zero, List.set_cons_succ])))
    refine bits_eff (by rfl) (fun K hK => ?_)
    go_simp
    (try go_ints)
    refine (RVal.as (may_any x _ (HT.out.below W3.out)) (congrArg Value.bool HMB.out)).mono ?_
    rintro e y4 ⟨rfl, b4⟩
    have W4 : Hid (Below w.heap.size w y4) := W3.out.trans (b4.mono W3.out.size)
    have R4_ := Lib.hid (R3_.out.below b4)
    refine hK _ _ ?_ ?_
    · repeat (first | (with_reducible (first | exact Keep.refl _ | refine Keep.left _ ?_ | refine Keep.drew ?_ | refine Keep.drewN ?_ _ | refine Keep.alloc ?_ _)) | (refine Keep.below ?_ (by with_reducible assumption)))
    clear hK K
    (try simp only [Act.put, List.setIfInBounds_toArray, List.set_cons_zero, List.set_cons_succ])
    repeat (first | (refine bits_take (v := ?_) (by rfl) ?_ ?_; rotate_left; (· intro w' hS; go_simp; (repeat (rw [hS.at_]; rotate_left; (· go_simp); go_simp)); (try (go_ints; try go_simp)); with_reducible rfl); (try simp only [Act.put, List.setIfInBounds_toArray, List.set_cons_zero, List.set_cons_succ])) | (refine bits_skip (by rfl) ?_; (try simp only [Act.put, List.setIfInBounds_toArray, List.set_cons_zero, List.set_cons_succ])))
    refine bits_eff (by rfl) (fun K hK => ?_)
    go_simp
    (try go_ints)
    refine (RVal.as (ref_may_any x _) (congrArg Value.bool HMB.out)).mono ?_
    rintro e y5 ⟨rfl, b5⟩
    have W5 : Hid (Below w.heap.size w y5) := W4.out.trans (b5.mono W4.out.size)
    have R5_ := Lib.hid (R4_.out.below b5)
    refine hK _ _ ?_ ?_
    · repeat (first | (with_reducible (first | exact Keep.refl _ | refine Keep.left _ ?_ | refine Keep.drew ?_ | refine Keep.drewN ?_ _ | refine Keep.alloc ?_ _)) | (refine Keep.below ?_ (by with_reducible assumption)))
    clear hK K
    (try simp only [Act.put, List.setIfInBounds_toArray, List.set_cons_zero, List.set_cons_succ])
    repeat (first | (refine bits_take (v := ?_) (by rfl) ?_ ?_; rotate_left; (· intro w' hS; go_simp; (repeat (rw [hS.at_]; rotate_left; (· go_simp); go_simp)); (try (go_ints; try go_simp)); with_reducible rfl); (try simp only [Act.put, List.setIfInBounds_toArray, List.set_cons_zero, List.set_cons_succ])) | (refine bits_skip (by rfl) ?_; (try simp only [Act.put, List.setIfInBounds_toArray, List.set_cons_zero, List.set_cons_succ])))
    refine bits_eff (by rfl) (fun K hK => ?_)
    go_simp
    (try go_ints)
    refine (RVal.as (row_any oa xs.length oc xs _ (cells_of R5_.out) (HT.out.below W5.out)) (congrArg Value.bool HRB.out)).mono ?_
    rintro e y6 ⟨rfl, b6⟩
    have W6 : Hid (Below w.heap.size w y6) := W5.out.trans (b6.mono W5.out.size)
    have R6_ := Lib.hid (R5_.out.below b6)
    refine hK _ _ ?_ ?_
    · repeat (first | (with_reducible (first | exact Keep.refl _ | refine Keep.left _ ?_ | refine Keep.drew ?_ | refine Keep.drewN ?_ _ | refine Keep.alloc ?_ _)) | (refine Keep.below ?_ (by with_reducible assumption)))
    clear hK K
    (try simp only [Act.put, List.setIfInBounds_toArray, List.set_cons_zero, List.set_cons_succ])
    repeat (first | (refine bits_take (v := ?_) (by rfl) ?_ ?_; rotate_left; (· intro w' hS; go_simp; (repeat (rw [hS.at_]; rotate_left; (· go_simp); go_simp)); (try (go_ints; try go_simp)); with_reducible rfl); (try simp only [Act.put, List.setIfInBounds_toArray, List.set_cons_zero, List.set_cons_succ])) | (refine bits_skip (by rfl) ?_; (try simp only [Act.put, List.setIfInBounds_toArray, List.set_cons_zero, List.set_cons_succ])))
    refine bits_eff (by rfl) (fun K hK => ?_)
    go_simp
    (try go_ints)
    refine (RVal.as (ref_row_any a xs.length c xs _ (HL.out.below W6.out)) (congrArg Value.bool HRB.out)).mono ?_
    rintro e y7 ⟨rfl, b7⟩
    have W7 : Hid (Below w.heap.size w y7) := W6.out.trans (b7.mono W6.out.size)
    have R7_ := Lib.hid (R6_.out.below b7)
    refine hK _ _ ?_ ?_
    · repeat (first | (with_reducible (first | exact Keep.refl _ | refine Keep.left _ ?_ | refine Keep.drew ?_ | refine Keep.drewN ?_ _ | refine Keep.alloc ?_ _)) | (refine Keep.below ?_ (by with_reducible assumption)))
    clear hK K
    (try simp only [Act.put, List.setIfInBounds_toArray, List.set_cons_zero, List.set_cons_succ])
    repeat (first | (refine bits_take (v := ?_) (by rfl) ?_ ?_; rotate_left; (· intro w' hS; go_simp; (repeat (rw [hS.at_]; rotate_left; (· go_simp); go_simp)); (try (go_ints; try go_simp)); with_reducible rfl); (try simp only [Act.put, List.setIfInBounds_toArray, List.set_cons_zero, List.set_cons_succ])) | (refine bits_skip (by rfl) ?_; (try simp only [Act.put, List.setIfInBounds_toArray, List.set_cons_zero, List.set_cons_succ])))
    refine bits_eff (by rfl) (fun K hK => ?_)
    go_simp
    (try go_ints)
    refine (blank_any x.f x.b x.a x.l _).mono ?_
    rintro e y8 ⟨rfl, b8⟩
    have W8 : Hid (Below w.heap.size w y8) := W7.out.trans (b8.mono W7.out.size)
    have R8_ := Lib.hid (R7_.out.below b8)
    refine hK _ _ ?_ ?_
    · repeat (first | (with_reducible (first | exact Keep.refl _ | refine Keep.left _ ?_ | refine Keep.drew ?_ | refine Keep.drewN ?_ _ | refine Keep.alloc ?_ _)) | (refine Keep.below ?_ (by with_reducible assumption)))
    clear hK K
    (try simp only [Act.put, List.setIfInBounds_toArray, List.set_cons_zero, List.set_cons_succ])
    repeat (first | (refine bits_take (v := ?_) (by rfl) ?_ ?_; rotate_left; (· intro w' hS; go_simp; (repeat (rw [hS.at_]; rotate_left; (· go_simp); go_simp)); (try (go_ints; try go_simp)); with_reducible rfl); (try simp only [Act.put, List.setIfInBounds_toArray, List.set_cons_zero, List.set_cons_succ])) | (refine bits_skip (by rfl) ?_; (try simp only [Act.put, List.setIfInBounds_toArray, List.set_cons_zero, List.set_cons_succ])))
    refine bits_eff (by rfl) (fun K hK => ?_)
    go_simp
    (try go_ints)
    refine (ref_blank_any x.f x.b x.a x.l _).mono ?_
    rintro e y9 ⟨rfl, b9⟩
    have W9 : Hid (Below w.heap.size w y9) := W8.out.trans (b9.mono W8.out.size)
    have R9_ := Lib.hid (R8_.out.below b9)
    refine hK _ _ ?_ ?_
    · repeat (first | (with_reducible (first | exact Keep.refl _ | refine Keep.left _ ?_ | refine Keep.drew ?_ | refine Keep.drewN ?_ _ | refine Keep.alloc ?_ _)) | (refine Keep.below ?_ (by with_reducible assumption)))
    clear hK K
    (try simp only [Act.put, List.setIfInBounds_toArray, List.set_cons_zero, List.set_cons_succ])
    repeat (first | (refine bits_take (v := ?_) (by rfl) ?_ ?_; rotate_left; (· intro w' hS; go_simp; (repeat (rw [hS.at_]; rotate_left; (· go_simp); go_simp)); (try (go_ints; try go_simp)); with_reducible rfl); (try simp only [Act.put, List.setIfInBounds_toArray, List.set_cons_zero, List.set_cons_succ])) | (refine bits_skip (by rfl) ?_; (try simp only [Act.put, List.setIfInBounds_toArray, List.set_cons_zero, List.set_cons_succ])))
    refine bits_eff (by rfl) (fun K hK => ?_)
    go_simp
    (try go_ints)
    refine (gsame_any oa a xs.length oc xs.length c xs xs _ (cells_of R9_.out) (HL.out.below W9.out)).mono ?_
    rintro e y10 ⟨hy10, q10, hq10⟩
    obtain rfl : e = .returned (.bool true) := by rw [hy10, decide_eq_true rfl]
    have b10 : Below y9.heap.size y9 y10 := by rw [← hq10]; exact below_drewN (Below.refl _ _) q10
    have W10 : Hid (Below w.heap.size w y10) := W9.out.trans (b10.mono W9.out.size)
    clear hy10 hq10
    refine hK _ _ ?_ ?_
    · repeat (first | (with_reducible (first | exact Keep.refl _ | refine Keep.left _ ?_ | refine Keep.drew ?_ | refine Keep.drewN ?_ _ | refine Keep.alloc ?_ _)) | (refine Keep.below ?_ (by with_reducible assumption)))
    clear hK K
    (try simp only [Act.put, List.setIfInBounds_toArray, List.set_cons_zero, List.set_cons_succ])
    repeat (first | (refine bits_take (v := ?_) (by rfl) ?_ ?_; rotate_left; (· intro w' hS; go_simp; (repeat (rw [hS.at_]; rotate_left; (· go_simp); go_simp)); (try (go_ints; try go_simp)); with_reducible rfl); (try simp only [Act.put, List.setIfInBounds_toArray, List.set_cons_zero, List.set_cons_succ])) | (refine bits_skip (by rfl) ?_; (try simp only [Act.put, List.setIfInBounds_toArray, List.set_cons_zero, List.set_cons_succ])))
    refine bits_nil ?_
    go_wp2_with fail
    go_ret
    exact ⟨rfl, W10.out⟩
end Go.Proofs.YtlhcehealjdbdaaDoor
