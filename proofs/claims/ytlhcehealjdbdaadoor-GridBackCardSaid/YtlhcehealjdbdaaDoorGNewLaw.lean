/- A new grid is blanks, or refused; its rows are told: the law's walk. -/
import Derived.Test.YtlhcehealjdbdaaDoorGRefNew
import Derived.Test.YtlhcehealjdbdaaDoorGFixed
import Derived.Test.YtlhcehealjdbdaaDoorGSameG
import Derived.Deep.DeepCutAuto
namespace Go.Proofs.YtlhcehealjdbdaaDoor
open Go.RowKit
set_option linter.unusedSimpArgs false
set_option linter.unusedVariables false
attribute [local go_sem] alloc_drewN setCell_drewN


theorem row_rep {C R Y : Nat} {x : Glyph} (h : Y < R) : rowOf C Y (List.replicate (C * R) x) = List.replicate C x := by
  have hm := mul_row (c := C) h
  unfold rowOf
  rw [List.drop_replicate, List.take_replicate]
  congr 1
  omega
theorem rep_grid {C R : Nat} (h1 : 1 ≤ C) (h8 : C ≤ 80) (r1 : 1 ≤ R) (r24 : R ≤ 24) : GridOk C R (List.replicate (C * R) (blank 0)) := by
  refine ⟨h1, h8, r1, r24, List.length_replicate, fun y hy => ?_⟩
  rw [row_rep hy]
  have hat : ∀ i, i < C → at_ (List.replicate C (blank 0)) i = blank 0 := fun i hi => by
    unfold at_
    rw [List.getD_eq_getElem?_getD, List.getElem?_replicate, if_pos hi]
    rfl
  refine ⟨by simpa using h1, by simpa using h8, fun i hi => ?_⟩
  have hi' : i < C := by simpa using hi
  unfold CellOk
  rw [hat i hi']
  exact ⟨by decide +kernel, fun k => absurd k (by decide), fun k => absurd k (by decide)⟩
set_option maxRecDepth 10000 in
set_option maxHeartbeats 4000000 in
theorem gridnew_walk (c r y : Int) (w : World) (ht : Tabs w) : Calls Tryd.prog 8 #[.int .i64 c, .int .i64 r, .int .i64 y] w (RVal (.bool true) w) := by
  have HT := Lib.hid ht
  clear ht
  obtain ⟨fb, hfb⟩ : ∃ fb, fitsB c r = fb := ⟨_, rfl⟩
  have HFB := Lib.hid hfb
  cases fb with
  | false =>
    clear hfb
    go_enter Tryd.func8, Tryd.ntmps8
    go_wp2_with fail
    refine (new_any c r w).mono ?_
    intro e w1 hp
    unfold NewPost at hp
    rw [if_neg (by rw [HFB.out]; decide)] at hp
    obtain ⟨rfl, b1⟩ := hp
    have B1 := Lib.hid b1
    clear b1
    go_upto_region 2 with fail
    have G2 : Hid (Own (w1.alloc (.cells #[.int .i64 0, .int .i64 0, .slice none 0 0] 49)) w1.heap.size 49 #[.int .i64 0, .int .i64 0, .slice none 0 0]) := Own.new w1 49 _
    have B2 : Hid (Below w.heap.size w (w1.alloc (.cells #[.int .i64 0, .int .i64 0, .slice none 0 0] 49))) := B1.out.alloc B1.out.size _
    generalize w1.alloc (.cells #[.int .i64 0, .int .i64 0, .slice none 0 0] 49) = w2 at G2 B2 ⊢
    generalize w1.heap.size = gb at G2 ⊢
    go_wp2_with fail
    refine (ref_new_any c r w2).mono ?_
    intro e w3 hp
    unfold NewPost at hp
    rw [if_neg (by rw [HFB.out]; decide)] at hp
    obtain ⟨rfl, b3⟩ := hp
    have B3 : Hid (Below w.heap.size w w3) := B2.out.trans (b3.mono B2.out.size)
    have G3 := Lib.hid (G2.out.below b3 G2.out.lt)
    clear b3
    go_upto_region 3 with fail
    have H4 : Hid (Own (w3.alloc (.cells #[.int .i64 0, .int .i64 0, .slice none 0 0] 49)) w3.heap.size 49 #[.int .i64 0, .int .i64 0, .slice none 0 0]) := Own.new w3 49 _
    have B4 : Hid (Below w.heap.size w (w3.alloc (.cells #[.int .i64 0, .int .i64 0, .slice none 0 0] 49))) := B3.out.alloc B3.out.size _
    have G4 := Lib.hid (G3.out.alloc (.cells #[.int .i64 0, .int .i64 0, .slice none 0 0] 49))
    generalize w3.alloc (.cells #[.int .i64 0, .int .i64 0, .slice none 0 0] 49) = w4 at H4 B4 G4 ⊢
    generalize w3.heap.size = hb at H4 ⊢
    go_wp2_with fail
    refine (gfixed_any _ (HT.out.below B4.out)).mono ?_
    rintro e w5 ⟨rfl, b5⟩
    have B5 : Hid (Below w.heap.size w w5) := B4.out.trans (b5.mono B4.out.size)
    have G5 := Lib.hid (G4.out.below b5 G4.out.lt)
    have H5 := Lib.hid (H4.out.below b5 H4.out.lt)
    clear b5
    have g0 := Own.cell G5.out 0
    have g1 := Own.cell G5.out 1
    have g2 := Own.cell G5.out 2
    simp only [List.getElem?_toArray, List.getElem?_cons_zero, List.getElem?_cons_succ] at g0 g1 g2
    have h0 := Own.cell H5.out 0
    have h1 := Own.cell H5.out 1
    have h2 := Own.cell H5.out 2
    simp only [List.getElem?_toArray, List.getElem?_cons_zero, List.getElem?_cons_succ] at h0 h1 h2
    go_wp2_with fail
    refine (RVal.as (sameg_any 0 0 0 0 none none 0 0 0 0 [] [] _ Cells.none Cells.none) (congrArg Value.bool (sameG_self 0 0 []))).mono ?_
    rintro e w6 ⟨rfl, b6⟩
    have B6 : Hid (Below w.heap.size w w6) := B5.out.trans (b6.mono B5.out.size)
    have G6 := Lib.hid (G5.out.below b6 G5.out.lt)
    clear b6 g0 g1 g2 h0 h1 h2
    have g0 := Own.cell G6.out 0
    have g1 := Own.cell G6.out 1
    have g2 := Own.cell G6.out 2
    simp only [List.getElem?_toArray, List.getElem?_cons_zero, List.getElem?_cons_succ] at g0 g1 g2
    go_wp2_with fail
    refine (growfn_any 0 0 y none 0 0 [] _ Cells.none (Nat.le_refl _) (HT.out.below B6.out)).mono ?_
    rw [show growP 0 0 [] y = [] from if_neg (fun h => by omega)]
    rintro e w7 ⟨v7, rfl, r7, b7⟩
    obtain ⟨ya, yc, rfl, _⟩ := r7.cells
    have B7 : Hid (Below w.heap.size w w7) := B6.out.trans (b7.mono B6.out.size)
    clear r7 b7 g0 g1 g2
    rw [List.length_nil]
    go_wp2_with fail
    go_ret
    exact ⟨rfl, B7.out⟩
  | true =>
    obtain ⟨a1, a2, a3, a4⟩ := fits_iff.1 hfb
    clear hfb
    obtain ⟨C, rfl⟩ : ∃ C : Nat, c = C := ⟨c.toNat, by omega⟩
    obtain ⟨R, rfl⟩ : ∃ R : Nat, r = R := ⟨r.toNat, by omega⟩
    have hok := rep_grid (C := C) (R := R) (by omega) (by omega) (by omega) (by omega)
    have hn24 := mul_bound (c := C) (r := R) (by omega) (by omega)
    have hpos : 0 < C * R := Nat.mul_pos (by omega) (by omega)
    have HOK := Lib.hid hok
    clear hok
    obtain ⟨X, hX⟩ : ∃ X, List.replicate (C * R) (blank 0) = X := ⟨_, rfl⟩
    obtain ⟨P, hP⟩ : ∃ P, C * R = P := ⟨_, rfl⟩
    have HXP : Hid (X.length = P) := by rw [← hX, ← hP]; exact List.length_replicate
    have HX := Lib.hid hX
    have HP := Lib.hid hP
    rw [hX] at HOK
    rw [hP] at hn24 hpos
    clear hX hP
    go_enter Tryd.func8, Tryd.ntmps8
    go_wp2_with fail
    refine (new_any C R w).mono ?_
    intro e w1 hp
    unfold NewPost at hp
    rw [if_pos HFB.out] at hp
    obtain ⟨v1, n1, rfl, hn1, r1, b1⟩ := hp
    have e1 : n1 = P := by rw [← HP.out]; have := Int.natCast_mul C R; omega
    rw [e1, ← HP.out, HX.out] at r1
    obtain ⟨ga, gc, rfl, _⟩ := r1.cells
    rw [HXP.out] at r1 ⊢
    have R1 := Lib.hid r1
    have B1 := Lib.hid b1
    have hgc := crow_cap r1 hpos
    clear r1 b1 hn1 e1
    go_upto_region 2 with fail
    have G2 : Hid (Own (w1.alloc (.cells #[.int .i64 C, .int .i64 R, .slice ga P gc] 49)) w1.heap.size 49 #[.int .i64 C, .int .i64 R, .slice ga P gc]) := Own.new w1 49 _
    have B2 : Hid (Below w.heap.size w (w1.alloc (.cells #[.int .i64 C, .int .i64 R, .slice ga P gc] 49))) := B1.out.alloc B1.out.size _
    have C2 : Hid (Cells (w1.alloc (.cells #[.int .i64 C, .int .i64 R, .slice ga P gc] 49)) ga P X) := (cells_of R1.out).alloc _
    generalize w1.alloc (.cells #[.int .i64 C, .int .i64 R, .slice ga P gc] 49) = w2 at G2 B2 C2 ⊢
    generalize w1.heap.size = gb at G2 ⊢
    go_wp2_with fail
    refine (ref_new_any C R w2).mono ?_
    intro e w3 hp
    unfold NewPost at hp
    rw [if_pos HFB.out] at hp
    obtain ⟨v3, n3, rfl, hn3, r3, b3⟩ := hp
    have e3 : n3 = P := by rw [← HP.out]; have := Int.natCast_mul C R; omega
    rw [e3, ← HP.out, HX.out] at r3
    obtain ⟨ha, hc, rfl, _⟩ := r3.cells
    rw [HXP.out] at r3 ⊢
    have B3 : Hid (Below w.heap.size w w3) := B2.out.trans (b3.mono B2.out.size)
    have G3 := Lib.hid (G2.out.below b3 G2.out.lt)
    have C3 := Lib.hid (C2.out.below b3)
    have R3 := Lib.hid r3
    clear b3 r3 hn3 e3
    go_upto_region 3 with fail
    have H4 : Hid (Own (w3.alloc (.cells #[.int .i64 C, .int .i64 R, .slice ha P hc] 49)) w3.heap.size 49 #[.int .i64 C, .int .i64 R, .slice ha P hc]) := Own.new w3 49 _
    have B4 : Hid (Below w.heap.size w (w3.alloc (.cells #[.int .i64 C, .int .i64 R, .slice ha P hc] 49))) := B3.out.alloc B3.out.size _
    have G4 := Lib.hid (G3.out.alloc (.cells #[.int .i64 C, .int .i64 R, .slice ha P hc] 49))
    have C4 := Lib.hid (C3.out.alloc (.cells #[.int .i64 C, .int .i64 R, .slice ha P hc] 49))
    have D4 : Hid (Cells (w3.alloc (.cells #[.int .i64 C, .int .i64 R, .slice ha P hc] 49)) ha P X) := (cells_of R3.out).alloc _
    generalize w3.alloc (.cells #[.int .i64 C, .int .i64 R, .slice ha P hc] 49) = w4 at H4 B4 G4 C4 D4 ⊢
    generalize w3.heap.size = hb at H4 ⊢
    go_wp2_with fail
    refine (gfixed_any _ (HT.out.below B4.out)).mono ?_
    rintro e w5 ⟨rfl, b5⟩
    have B5 : Hid (Below w.heap.size w w5) := B4.out.trans (b5.mono B4.out.size)
    have G5 := Lib.hid (G4.out.below b5 G4.out.lt)
    have H5 := Lib.hid (H4.out.below b5 H4.out.lt)
    have C5 := Lib.hid (C4.out.below b5)
    have D5 := Lib.hid (D4.out.below b5)
    clear b5
    have g0 := Own.cell G5.out 0
    have g1 := Own.cell G5.out 1
    have g2 := Own.cell G5.out 2
    simp only [List.getElem?_toArray, List.getElem?_cons_zero, List.getElem?_cons_succ] at g0 g1 g2
    have h0 := Own.cell H5.out 0
    have h1 := Own.cell H5.out 1
    have h2 := Own.cell H5.out 2
    simp only [List.getElem?_toArray, List.getElem?_cons_zero, List.getElem?_cons_succ] at h0 h1 h2
    go_wp2_with fail
    refine (RVal.as (sameg_any C R C R ga ha P gc P hc X X _ C5.out D5.out) (congrArg Value.bool (sameG_self C R X))).mono ?_
    rintro e w6 ⟨rfl, b6⟩
    have B6 : Hid (Below w.heap.size w w6) := B5.out.trans (b6.mono B5.out.size)
    have G6 := Lib.hid (G5.out.below b6 G5.out.lt)
    have C6 := Lib.hid (C5.out.below b6)
    clear b6 g0 g1 g2 h0 h1 h2
    have g0 := Own.cell G6.out 0
    have g1 := Own.cell G6.out 1
    have g2 := Own.cell G6.out 2
    simp only [List.getElem?_toArray, List.getElem?_cons_zero, List.getElem?_cons_succ] at g0 g1 g2
    go_wp2_with fail
    have HGM : Hid (gridMay C R X = true) := gmay_iff.2 ⟨C, R, rfl, rfl, HOK.out⟩
    have HGR := Lib.hid (growfn_any C R y ga P gc X w6 C6.out hgc (HT.out.below B6.out))
    by_cases hy : 0 ≤ y ∧ y < (R : Int)
    · obtain ⟨Y, rfl⟩ : ∃ Y : Nat, y = Y := ⟨y.toNat, by omega⟩
      have HF : Hid (growP C R X Y = List.replicate C (blank 0)) := by
        unfold growP
        rw [if_pos ⟨HGM.out, hy.1, hy.2⟩, Int.toNat_natCast, Int.toNat_natCast, ← HX.out, row_rep (by omega)]
        rfl
      rw [HF.out] at HGR
      have hd1 : decide ((Y : Int) < 0) = false := decide_eq_false (by omega)
      have hd2 : decide ((R : Int) ≤ (Y : Int)) = false := decide_eq_false (by omega)
      have hd3 : decide (R ≤ Y) = false := decide_eq_false (by omega)
      have hC8 : C ≤ 80 := by omega
      have HCL : Hid ((List.replicate C (blank 0)).length = C) := List.length_replicate
      clear hy
      refine HGR.out.mono ?_
      clear HGR
      rintro e w7 ⟨v7, rfl, r7, b7⟩
      obtain ⟨ya, yc, rfl, _⟩ := r7.cells
      rw [HCL.out] at r7 ⊢
      have B7 : Hid (Below w.heap.size w w7) := B6.out.trans (b7.mono B6.out.size)
      have R7 := Lib.hid r7
      clear r7 b7 g0 g1 g2
      go_wp2_with fail
      refine (blanks_any C hC8 0 0 0 0 _).mono ?_
      rintro e w8 ⟨v8, rfl, r8, b8⟩
      obtain ⟨za, zc, rfl, _⟩ := r8.cells
      rw [HCL.out] at r8 ⊢
      have B8 : Hid (Below w.heap.size w w8) := B7.out.trans (b8.mono B7.out.size)
      have C8 : Hid (Cells w8 ya C (List.replicate C (blank 0))) := (cells_of R7.out).below b8
      have D8 : Hid (Cells w8 za C (List.replicate C (blank 0))) := cells_of r8
      clear r8 b8
      go_wp2_with fail
      refine (gsame_any ya za C yc C zc _ _ _ C8.out D8.out).mono ?_
      rintro e w9 ⟨he9, q9, hq9⟩
      obtain rfl : e = .returned (.bool true) := by rw [he9, decide_eq_true rfl]
      have B9 : Hid (Below w.heap.size w w9) := by rw [← hq9]; exact below_drewN B8.out q9
      clear he9 hq9
      go_wp2_with fail
      go_ret
      exact ⟨rfl, B9.out⟩
    · have HF : Hid (growP C R X y = []) := if_neg (fun h => hy h.2)
      rw [HF.out] at HGR
      refine HGR.out.mono ?_
      clear HGR
      rintro e w7 ⟨v7, rfl, r7, b7⟩
      obtain ⟨ya, yc, rfl, _⟩ := r7.cells
      have B7 : Hid (Below w.heap.size w w7) := B6.out.trans (b7.mono B6.out.size)
      clear r7 b7 g0 g1 g2
      rw [List.length_nil]
      cases hd1 : decide (y < 0) with
      | true =>
        clear hy
        go_wp2_with fail
        go_ret
        exact ⟨rfl, B7.out⟩
      | false =>
        have hd2 : decide ((R : Int) ≤ y) = true := decide_eq_true (by have := of_decide_eq_false hd1; omega)
        clear hy
        go_wp2_with fail
        go_ret
        exact ⟨rfl, B7.out⟩
end Go.Proofs.YtlhcehealjdbdaaDoor
