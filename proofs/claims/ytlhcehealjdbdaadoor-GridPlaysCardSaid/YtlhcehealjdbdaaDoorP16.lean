/- Part 16 of the texts that GridPlays stands on, one behind the other. -/
import Derived.Test.YtlhcehealjdbdaaDoorP15
import Derived.Deep.DeepCutAuto
import Derived.Test.YtlhcehealjdbdaaDoorP10
import Derived.Test.YtlhcehealjdbdaaDoorP9
import Derived.Test.YtlhcehealjdbdaaDoorP13
/- A new grid is blanks, or refused; its rows are told: the law's walk. -/
namespace Go.Proofs.YtlhcehealjdbdaaDoor
open Go.RowKit
set_option linter.unusedSimpArgs false
set_option linter.unusedVariables false
attribute [local go_sem] alloc_drewN setCell_drewN


theorem row_rep {C R Y : Nat} {x : Glyph} (h : Y < R) : rowOf C Y (List.replicate (C * R) x) = List.replicate C x := by
  have hm := mul_row (c := C) h
  unfold rowOf
  rw [List.drop_replicate, List.take_replicate]
  congr 1
  omega
theorem rep_grid {C R : Nat} (h1 : 1 ≤ C) (h8 : C ≤ 80) (r1 : 1 ≤ R) (r24 : R ≤ 24) : GridOk C R (List.replicate (C * R) (blank 0)) := by
  refine ⟨h1, h8, r1, r24, List.length_replicate, fun y hy => ?_⟩
  rw [row_rep hy]
  have hat : ∀ i, i < C → at_ (List.replicate C (blank 0)) i = blank 0 := fun i hi => by
    unfold at_
    rw [List.getD_eq_getElem?_getD, List.getElem?_replicate, if_pos hi]
    rfl
  refine ⟨by simpa using h1, by simpa using h8, fun i hi => ?_⟩
  have hi' : i < C := by simpa using hi
  unfold CellOk
  rw [hat i hi']
  exact ⟨by decide +kernel, fun k => absurd k (by decide), fun k => absurd k (by decide)⟩
set_option maxRecDepth 10000 in
set_option maxHeartbeats 4000000 in
theorem gridnew_walk (c r y : Int) (w : World) (ht : Tabs w) : Calls Tryd.prog 8 #[.int .i64 c, .int .i64 r, .int .i64 y] w (RVal (.bool true) w) := by
  have HT := Lib.hid ht
  clear ht
  obtain ⟨fb, hfb⟩ : ∃ fb, fitsB c r = fb := ⟨_, rfl⟩
  have HFB := Lib.hid hfb
  cases fb with
  | false =>
    clear hfb
    go_enter Tryd.func8, Tryd.ntmps8
    go_wp2_with fail
    refine (new_any c r w).mono ?_
    intro e w1 hp
    unfold NewPost at hp
    rw [if_neg (by rw [HFB.out]; decide)] at hp
    obtain ⟨rfl, b1⟩ := hp
    have B1 := Lib.hid b1
    clear b1
    go_upto_region 2 with fail
    have G2 : Hid (Own (w1.alloc (.cells #[.int .i64 0, .int .i64 0, .slice none 0 0] 49)) w1.heap.size 49 #[.int .i64 0, .int .i64 0, .slice none 0 0]) := Own.new w1 49 _
    have B2 : Hid (Below w.heap.size w (w1.alloc (.cells #[.int .i64 0, .int .i64 0, .slice none 0 0] 49))) := B1.out.alloc B1.out.size _
    generalize w1.alloc (.cells #[.int .i64 0, .int .i64 0, .slice none 0 0] 49) = w2 at G2 B2 ⊢
    generalize w1.heap.size = gb at G2 ⊢
    go_wp2_with fail
    refine (ref_new_any c r w2).mono ?_
    intro e w3 hp
    unfold NewPost at hp
    rw [if_neg (by rw [HFB.out]; decide)] at hp
    obtain ⟨rfl, b3⟩ := hp
    have B3 : Hid (Below w.heap.size w w3) := B2.out.trans (b3.mono B2.out.size)
    have G3 := Lib.hid (G2.out.below b3 G2.out.lt)
    clear b3
    go_upto_region 3 with fail
    have H4 : Hid (Own (w3.alloc (.cells #[.int .i64 0, .int .i64 0, .slice none 0 0] 49)) w3.heap.size 49 #[.int .i64 0, .int .i64 0, .slice none 0 0]) := Own.new w3 49 _
    have B4 : Hid (Below w.heap.size w (w3.alloc (.cells #[.int .i64 0, .int .i64 0, .slice none 0 0] 49))) := B3.out.alloc B3.out.size _
    have G4 := Lib.hid (G3.out.alloc (.cells #[.int .i64 0, .int .i64 0, .slice none 0 0] 49))
    generalize w3.alloc (.cells #[.int .i64 0, .int .i64 0, .slice none 0 0] 49) = w4 at H4 B4 G4 ⊢
    generalize w3.heap.size = hb at H4 ⊢
    go_wp2_with fail
    refine (gfixed_any _ (HT.out.below B4.out)).mono ?_
    rintro e w5 ⟨rfl, b5⟩
    have B5 : Hid (Below w.heap.size w w5) := B4.out.trans (b5.mono B4.out.size)
    have G5 := Lib.hid (G4.out.below b5 G4.out.lt)
    have H5 := Lib.hid (H4.out.below b5 H4.out.lt)
    clear b5
    have g0 := Own.cell G5.out 0
    have g1 := Own.cell G5.out 1
    have g2 := Own.cell G5.out 2
    simp only [List.getElem?_toArray, List.getElem?_cons_zero, List.getElem?_cons_succ] at g0 g1 g2
    have h0 := Own.cell H5.out 0
    have h1 := Own.cell H5.out 1
    have h2 := Own.cell H5.out 2
    simp only [List.getElem?_toArray, List.getElem?_cons_zero, List.getElem?_cons_succ] at h0 h1 h2
    go_wp2_with fail
    refine (RVal.as (sameg_any 0 0 0 0 none none 0 0 0 0 [] [] _ Cells.none Cells.none) (congrArg Value.bool (sameG_self 0 0 []))).mono ?_
    rintro e w6 ⟨rfl, b6⟩
    have B6 : Hid (Below w.heap.size w w6) := B5.out.trans (b6.mono B5.out.size)
    have G6 := Lib.hid (G5.out.below b6 G5.out.lt)
    clear b6 g0 g1 g2 h0 h1 h2
    have g0 := Own.cell G6.out 0
    have g1 := Own.cell G6.out 1
    have g2 := Own.cell G6.out 2
    simp only [List.getElem?_toArray, List.getElem?_cons_zero, List.getElem?_cons_succ] at g0 g1 g2
    go_wp2_with fail
    refine (growfn_any 0 0 y none 0 0 [] _ Cells.none (Nat.le_refl _) (HT.out.below B6.out)).mono ?_
    rw [show growP 0 0 [] y = [] from if_neg (fun h => by omega)]
    rintro e w7 ⟨v7, rfl, r7, b7⟩
    obtain ⟨ya, yc, rfl, _⟩ := r7.cells
    have B7 : Hid (Below w.heap.size w w7) := B6.out.trans (b7.mono B6.out.size)
    clear r7 b7 g0 g1 g2
    rw [List.length_nil]
    go_wp2_with fail
    go_ret
    exact ⟨rfl, B7.out⟩
  | true =>
    obtain ⟨a1, a2, a3, a4⟩ := fits_iff.1 hfb
    clear hfb
    obtain ⟨C, rfl⟩ : ∃ C : Nat, c = C := ⟨c.toNat, by omega⟩
    obtain ⟨R, rfl⟩ : ∃ R : Nat, r = R := ⟨r.toNat, by omega⟩
    have hok := rep_grid (C := C) (R := R) (by omega) (by omega) (by omega) (by omega)
    have hn24 := mul_bound (c := C) (r := R) (by omega) (by omega)
    have hpos : 0 < C * R := Nat.mul_pos (by omega) (by omega)
    have HOK := Lib.hid hok
    clear hok
    obtain ⟨X, hX⟩ : ∃ X, List.replicate (C * R) (blank 0) = X := ⟨_, rfl⟩
    obtain ⟨P, hP⟩ : ∃ P, C * R = P := ⟨_, rfl⟩
    have HXP : Hid (X.length = P) := by rw [← hX, ← hP]; exact List.length_replicate
    have HX := Lib.hid hX
    have HP := Lib.hid hP
    rw [hX] at HOK
    rw [hP] at hn24 hpos
    clear hX hP
    go_enter Tryd.func8, Tryd.ntmps8
    go_wp2_with fail
    refine (new_any C R w).mono ?_
    intro e w1 hp
    unfold NewPost at hp
    rw [if_pos HFB.out] at hp
    obtain ⟨v1, n1, rfl, hn1, r1, b1⟩ := hp
    have e1 : n1 = P := by rw [← HP.out]; have := Int.natCast_mul C R; omega
    rw [e1, ← HP.out, HX.out] at r1
    obtain ⟨ga, gc, rfl, _⟩ := r1.cells
    rw [HXP.out] at r1 ⊢
    have R1 := Lib.hid r1
    have B1 := Lib.hid b1
    have hgc := crow_cap r1 hpos
    clear r1 b1 hn1 e1
    go_upto_region 2 with fail
    have G2 : Hid (Own (w1.alloc (.cells #[.int .i64 C, .int .i64 R, .slice ga P gc] 49)) w1.heap.size 49 #[.int .i64 C, .int .i64 R, .slice ga P gc]) := Own.new w1 49 _
    have B2 : Hid (Below w.heap.size w (w1.alloc (.cells #[.int .i64 C, .int .i64 R, .slice ga P gc] 49))) := B1.out.alloc B1.out.size _
    have C2 : Hid (Cells (w1.alloc (.cells #[.int .i64 C, .int .i64 R, .slice ga P gc] 49)) ga P X) := (cells_of R1.out).alloc _
    generalize w1.alloc (.cells #[.int .i64 C, .int .i64 R, .slice ga P gc] 49) = w2 at G2 B2 C2 ⊢
    generalize w1.heap.size = gb at G2 ⊢
    go_wp2_with fail
    refine (ref_new_any C R w2).mono ?_
    intro e w3 hp
    unfold NewPost at hp
    rw [if_pos HFB.out] at hp
    obtain ⟨v3, n3, rfl, hn3, r3, b3⟩ := hp
    have e3 : n3 = P := by rw [← HP.out]; have := Int.natCast_mul C R; omega
    rw [e3, ← HP.out, HX.out] at r3
    obtain ⟨ha, hc, rfl, _⟩ := r3.cells
    rw [HXP.out] at r3 ⊢
    have B3 : Hid (Below w.heap.size w w3) := B2.out.trans (b3.mono B2.out.size)
    have G3 := Lib.hid (G2.out.below b3 G2.out.lt)
    have C3 := Lib.hid (C2.out.below b3)
    have R3 := Lib.hid r3
    clear b3 r3 hn3 e3
    go_upto_region 3 with fail
    have H4 : Hid (Own (w3.alloc (.cells #[.int .i64 C, .int .i64 R, .slice ha P hc] 49)) w3.heap.size 49 #[.int .i64 C, .int .i64 R, .slice ha P hc]) := Own.new w3 49 _
    have B4 : Hid (Below w.heap.size w (w3.alloc (.cells #[.int .i64 C, .int .i64 R, .slice ha P hc] 49))) := B3.out.alloc B3.out.size _
    have G4 := Lib.hid (G3.out.alloc (.cells #[.int .i64 C, .int .i64 R, .slice ha P hc] 49))
    have C4 := Lib.hid (C3.out.alloc (.cells #[.int .i64 C, .int .i64 R, .slice ha P hc] 49))
    have D4 : Hid (Cells (w3.alloc (.cells #[.int .i64 C, .int .i64 R, .slice ha P hc] 49)) ha P X) := (cells_of R3.out).alloc _
    generalize w3.alloc (.cells #[.int .i64 C, .int .i64 R, .slice ha P hc] 49) = w4 at H4 B4 G4 C4 D4 ⊢
    generalize w3.heap.size = hb at H4 ⊢
    go_wp2_with fail
    refine (gfixed_any _ (HT.out.below B4.out)).mono ?_
    rintro e w5 ⟨rfl, b5⟩
    have B5 : Hid (Below w.heap.size w w5) := B4.out.trans (b5.mono B4.out.size)
    have G5 := Lib.hid (G4.out.below b5 G4.out.lt)
    have H5 := Lib.hid (H4.out.below b5 H4.out.lt)
    have C5 := Lib.hid (C4.out.below b5)
    have D5 := Lib.hid (D4.out.below b5)
    clear b5
    have g0 := Own.cell G5.out 0
    have g1 := Own.cell G5.out 1
    have g2 := Own.cell G5.out 2
    simp only [List.getElem?_toArray, List.getElem?_cons_zero, List.getElem?_cons_succ] at g0 g1 g2
    have h0 := Own.cell H5.out 0
    have h1 := Own.cell H5.out 1
    have h2 := Own.cell H5.out 2
    simp only [List.getElem?_toArray, List.getElem?_cons_zero, List.getElem?_cons_succ] at h0 h1 h2
    go_wp2_with fail
    refine (RVal.as (sameg_any C R C R ga ha P gc P hc X X _ C5.out D5.out) (congrArg Value.bool (sameG_self C R X))).mono ?_
    rintro e w6 ⟨rfl, b6⟩
    have B6 : Hid (Below w.heap.size w w6) := B5.out.trans (b6.mono B5.out.size)
    have G6 := Lib.hid (G5.out.below b6 G5.out.lt)
    have C6 := Lib.hid (C5.out.below b6)
    clear b6 g0 g1 g2 h0 h1 h2
    have g0 := Own.cell G6.out 0
    have g1 := Own.cell G6.out 1
    have g2 := Own.cell G6.out 2
    simp only [List.getElem?_toArray, List.getElem?_cons_zero, List.getElem?_cons_succ] at g0 g1 g2
    go_wp2_with fail
    have HGM : Hid (gridMay C R X = true) := gmay_iff.2 ⟨C, R, rfl, rfl, HOK.out⟩
    have HGR := Lib.hid (growfn_any C R y ga P gc X w6 C6.out hgc (HT.out.below B6.out))
    by_cases hy : 0 ≤ y ∧ y < (R : Int)
    · obtain ⟨Y, rfl⟩ : ∃ Y : Nat, y = Y := ⟨y.toNat, by omega⟩
      have HF : Hid (growP C R X Y = List.replicate C (blank 0)) := by
        unfold growP
        rw [if_pos ⟨HGM.out, hy.1, hy.2⟩, Int.toNat_natCast, Int.toNat_natCast, ← HX.out, row_rep (by omega)]
        rfl
      rw [HF.out] at HGR
      have hd1 : decide ((Y : Int) < 0) = false := decide_eq_false (by omega)
      have hd2 : decide ((R : Int) ≤ (Y : Int)) = false := decide_eq_false (by omega)
      have hd3 : decide (R ≤ Y) = false := decide_eq_false (by omega)
      have hC8 : C ≤ 80 := by omega
      have HCL : Hid ((List.replicate C (blank 0)).length = C) := List.length_replicate
      clear hy
      refine HGR.out.mono ?_
      clear HGR
      rintro e w7 ⟨v7, rfl, r7, b7⟩
      obtain ⟨ya, yc, rfl, _⟩ := r7.cells
      rw [HCL.out] at r7 ⊢
      have B7 : Hid (Below w.heap.size w w7) := B6.out.trans (b7.mono B6.out.size)
      have R7 := Lib.hid r7
      clear r7 b7 g0 g1 g2
      go_wp2_with fail
      refine (blanks_any C hC8 0 0 0 0 _).mono ?_
      rintro e w8 ⟨v8, rfl, r8, b8⟩
      obtain ⟨za, zc, rfl, _⟩ := r8.cells
      rw [HCL.out] at r8 ⊢
      have B8 : Hid (Below w.heap.size w w8) := B7.out.trans (b8.mono B7.out.size)
      have C8 : Hid (Cells w8 ya C (List.replicate C (blank 0))) := (cells_of R7.out).below b8
      have D8 : Hid (Cells w8 za C (List.replicate C (blank 0))) := cells_of r8
      clear r8 b8
      go_wp2_with fail
      refine (gsame_any ya za C yc C zc _ _ _ C8.out D8.out).mono ?_
      rintro e w9 ⟨he9, q9, hq9⟩
      obtain rfl : e = .returned (.bool true) := by rw [he9, decide_eq_true rfl]
      have B9 : Hid (Below w.heap.size w w9) := by rw [← hq9]; exact below_drewN B8.out q9
      clear he9 hq9
      go_wp2_with fail
      go_ret
      exact ⟨rfl, B9.out⟩
    · have HF : Hid (growP C R X y = []) := if_neg (fun h => hy h.2)
      rw [HF.out] at HGR
      refine HGR.out.mono ?_
      clear HGR
      rintro e w7 ⟨v7, rfl, r7, b7⟩
      obtain ⟨ya, yc, rfl, _⟩ := r7.cells
      have B7 : Hid (Below w.heap.size w w7) := B6.out.trans (b7.mono B6.out.size)
      clear r7 b7 g0 g1 g2
      rw [List.length_nil]
      cases hd1 : decide (y < 0) with
      | true =>
        clear hy
        go_wp2_with fail
        go_ret
        exact ⟨rfl, B7.out⟩
      | false =>
        have hd2 : decide ((R : Int) ≤ y) = true := decide_eq_true (by have := of_decide_eq_false hd1; omega)
        clear hy
        go_wp2_with fail
        go_ret
        exact ⟨rfl, B7.out⟩
end Go.Proofs.YtlhcehealjdbdaaDoor
/- A grid made larger and smaller again, in plain Lean. -/
namespace Go.Proofs.YtlhcehealjdbdaaDoor
open Go.RowKit
set_option linter.unusedSimpArgs false
set_option linter.unusedVariables false

theorem part_at {X l : List Glyph} {d m i : Nat} (h : d + m ≤ X.length) (hm : m ≤ l.length) : at_ (partP X d l m) i = if d ≤ i ∧ i < d + m then at_ l (i - d) else at_ X i := by
  unfold at_ partP
  have l1 : (X.take d).length = d := by rw [List.length_take]; omega
  have l2 : (l.take m).length = m := by rw [List.length_take]; omega
  rw [List.getD_eq_getElem?_getD, List.getElem?_append, List.getElem?_append, List.length_append, l1, l2]
  by_cases h1 : i < d
  · rw [if_pos (by omega), if_pos h1, if_neg (by omega), List.getElem?_take, if_pos h1, ← List.getD_eq_getElem?_getD]
  · by_cases h2 : i < d + m
    · rw [if_pos h2, if_neg h1, if_pos (by omega), List.getElem?_take, if_pos (by omega), ← List.getD_eq_getElem?_getD]
    · rw [if_neg h2, if_neg (by omega), List.getElem?_drop, ← List.getD_eq_getElem?_getD]
      congr 1
      omega
theorem rz_at {C C2 R R2 : Nat} {xs : List Glyph} (hl : xs.length = C * R) (hc : 1 ≤ min C C2) (hw : ∀ z, z < R → (at_ xs (z * C + (min C C2 - 1))).w ≠ 1) : ∀ k, k ≤ R → k ≤ R2 → ∀ z j, z < R2 → j < C2 → at_ (rzF C C2 R2 xs k) (z * C2 + j) = if z < k ∧ j < min C C2 then at_ xs (z * C + j) else blank 0
  | 0, _, _, z, j, hz, hj => by
    have hm := mul_row (c := C2) hz
    rw [if_neg (by omega)]
    unfold rzF at_
    rw [List.getD_eq_getElem?_getD, List.getElem?_replicate, if_pos (by omega)]
    rfl
  | k + 1, h1, h2, z, j, hz, hj => by
    have ih := rz_at (C2 := C2) (R2 := R2) hl hc hw k (by omega) (by omega)
    have hm := mul_row (c := C2) (show k < R2 by omega)
    have hlen := rzF_len (C2 := C2) (R2 := R2) hl k (by omega) (by omega)
    have hrl : (rowOf C k xs).length = C := row_len (r := R) hl (show k < R by omega)
    obtain ⟨K, hK⟩ : ∃ K, min C C2 = K := ⟨_, rfl⟩
    rw [hK] at ih hc ⊢
    have hKC : K ≤ C := by omega
    have hKC2 : K ≤ C2 := by omega
    have hd : k * C2 + K ≤ (rzF C C2 R2 xs k).length := by rw [hlen]; omega
    have hr : K ≤ (rowOf C k xs).length := by rw [hrl]; exact hKC
    have hwk := hw k (by omega)
    rw [hK] at hwk
    have hfix : fixAt (partP (rzF C C2 R2 xs k) (k * C2) (rowOf C k xs) K) (k * C2 + K - 1) = partP (rzF C C2 R2 xs k) (k * C2) (rowOf C k xs) K := by
      unfold fixAt
      rw [if_neg]
      rw [part_at hd hr, if_pos ⟨by omega, by omega⟩, show k * C2 + K - 1 - k * C2 = K - 1 from by omega, rowAt (by omega)]
      exact hwk
    rw [rzF, hK, hfix, part_at hd hr]
    by_cases hzk : z = k
    · subst hzk
      by_cases hjK : j < K
      · rw [if_pos ⟨by omega, by omega⟩, if_pos ⟨by omega, hjK⟩, show z * C2 + j - z * C2 = j from by omega, rowAt (by omega)]
      · rw [if_neg (by omega), if_neg (by omega), ih z j hz hj, if_neg (by omega)]
    · rw [if_neg (fun h => other_row (c := C2) hzk hj ⟨h.1, by omega⟩), ih z j hz hj]
      by_cases hq : z < k ∧ j < K
      · rw [if_pos hq, if_pos ⟨by omega, hq.2⟩]
      · rw [if_neg hq, if_neg (fun h => hq ⟨by omega, h.2⟩)]
theorem row_ext {l l2 : List Glyph} (h : RowOk l) (h8 : l2.length ≤ 80) (hle : l.length ≤ l2.length) (hin : ∀ j, j < l.length → at_ l2 j = at_ l j) (hout : ∀ j, l.length ≤ j → j < l2.length → at_ l2 j = blank 0) : RowOk l2 := by
  refine ⟨by have := h.1; omega, h8, fun i hi => ?_⟩
  by_cases hj : i < l.length
  · obtain ⟨q1, q2, q3⟩ := h.2.2 i hj
    refine ⟨by rw [hin i hj]; exact q1, fun k => ?_, fun k => ?_⟩
    · rw [hin i hj] at k
      obtain ⟨a1, a2, a3⟩ := q2 k
      exact ⟨by omega, by rw [hin _ a1]; exact a2, by rw [hin _ a1, hin i hj]; exact a3⟩
    · rw [hin i hj] at k
      obtain ⟨a1, a2⟩ := q3 k
      exact ⟨a1, by rw [hin _ (by omega)]; exact a2⟩
  · have e := hout i (by omega) hi
    refine ⟨by rw [e]; decide +kernel, fun k => ?_, fun k => ?_⟩
    · rw [e] at k
      exact absurd k (by decide)
    · rw [e] at k
      exact absurd k (by decide)
theorem last_ok {l : List Glyph} (h : RowOk l) : (at_ l (l.length - 1)).w ≠ 1 := by
  intro k
  have := ((h.2.2 (l.length - 1) (by have := h.1; omega)).2.1 k).1
  omega
theorem back_ok {C R C2 R2 : Nat} {xs : List Glyph} (h : GridOk C R xs) (h1 : C ≤ C2) (h2 : R ≤ R2) (h3 : C2 ≤ 80) (h4 : R2 ≤ 24) :
    ∃ M, (∀ v, rzI C R xs C2 R2 v = v) ∧ resizeP C R xs C2 R2 = M ∧ GridOk C2 R2 M ∧ (∀ v, rzI C2 R2 M C R v = v) ∧ resizeP C2 R2 M C R = xs := by
  obtain ⟨a1, a2, a3, a4, a5, a6⟩ := h
  have m1 : gridMay C R xs = true := gmay_iff.2 ⟨C, R, rfl, rfl, a1, a2, a3, a4, a5, a6⟩
  have f1 : fitsB C2 R2 = true := fits_iff.2 ⟨by omega, by omega, by omega, by omega⟩
  have f2 : fitsB C R = true := fits_iff.2 ⟨by omega, by omega, by omega, by omega⟩
  have hmin : min C C2 = C := by omega
  have hmin2 : min C2 C = C := by omega
  have hlast : ∀ z, z < R → (at_ xs (z * C + (C - 1))).w ≠ 1 := fun z hz => by
    have k := last_ok (a6 z hz)
    rw [row_len a5 hz, rowAt (by omega)] at k
    exact k
  obtain ⟨M, hM⟩ : ∃ M, rzF C C2 R2 xs R = M := ⟨_, rfl⟩
  have hl : M.length = C2 * R2 := by rw [← hM]; exact rzF_len a5 R (by omega) h2
  have hat : ∀ z j, z < R2 → j < C2 → at_ M (z * C2 + j) = if z < R ∧ j < C then at_ xs (z * C + j) else blank 0 := fun z j hz hj => by
    have k := rz_at (C2 := C2) (R2 := R2) a5 (by omega) (by rw [hmin]; exact hlast) R (by omega) h2 z j hz hj
    rw [hmin, hM] at k
    exact k
  have hok : GridOk C2 R2 M := by
    refine ⟨by omega, h3, by omega, h4, hl, fun z hz => ?_⟩
    have hrl := row_len hl hz
    by_cases hzR : z < R
    · refine row_ext (a6 z hzR) (by rw [hrl]; exact h3) (by rw [hrl, row_len a5 hzR]; exact h1) (fun j hj => ?_) (fun j hj hj2 => ?_)
      · rw [row_len a5 hzR] at hj
        rw [rowAt (by omega), hat z j hz (by omega), if_pos ⟨hzR, hj⟩, rowAt hj]
      · rw [row_len a5 hzR] at hj
        rw [hrl] at hj2
        rw [rowAt hj2, hat z j hz hj2, if_neg (by omega)]
    · have e : rowOf C2 z M = List.replicate C2 (blank 0) := by
        refine gext (by rw [hrl, List.length_replicate]) fun j hj => ?_
        rw [hrl] at hj
        show at_ (rowOf C2 z M) j = _
        rw [rowAt hj, hat z j hz hj, if_neg (by omega), List.getD_eq_getElem?_getD, List.getElem?_replicate, if_pos hj]
        rfl
      rw [e]
      have q := (rep_grid (show 1 ≤ C2 by omega) h3 (show 1 ≤ 1 by omega) (by omega)).2.2.2.2.2 0 (by omega)
      unfold rowOf at q
      rw [Nat.zero_mul, List.drop_zero, Nat.mul_one, List.take_of_length_le (by rw [List.length_replicate]; exact Nat.le_refl _)] at q
      exact q
  have m2 : gridMay C2 R2 M = true := gmay_iff.2 ⟨C2, R2, rfl, rfl, hok⟩
  refine ⟨M, fun v => ?_, ?_, hok, fun v => ?_, ?_⟩
  · unfold rzI
    rw [f1, m1]
    rfl
  · unfold resizeP
    rw [f1, m1, Bool.true_and, if_pos rfl]
    simp only [Int.toNat_natCast]
    rw [show min R R2 = R from by omega]
    exact hM
  · unfold rzI
    rw [f2, m2]
    rfl
  · unfold resizeP
    rw [f2, m2, Bool.true_and, if_pos rfl]
    simp only [Int.toNat_natCast]
    rw [show min R2 R = R from by omega]
    have hw2 : ∀ z, z < R2 → (at_ M (z * C2 + (C - 1))).w ≠ 1 := fun z hz => by
      rw [hat z _ hz (by omega)]
      split
      · rename_i q
        exact hlast z q.1
      · decide
    refine gext ?_ fun i hi => ?_
    · rw [rzF_len hl R h2 (Nat.le_refl _)]
      exact a5.symm
    · rw [rzF_len hl R h2 (Nat.le_refl _)] at hi
      have hy : i / C < R := Nat.div_lt_of_lt_mul hi
      have hj : i % C < C := Nat.mod_lt _ a1
      have e : i = i / C * C + i % C := by rw [Nat.mul_comm]; exact (Nat.div_add_mod i C).symm
      obtain ⟨z, hz⟩ : ∃ z, i / C = z := ⟨_, rfl⟩
      obtain ⟨j, hj0⟩ : ∃ j, i % C = j := ⟨_, rfl⟩
      rw [hz] at hy e
      rw [hj0] at hj e
      have k := rz_at (C := C2) (C2 := C) (R2 := R) hl (by omega) (by rw [hmin2]; exact hw2) R h2 (Nat.le_refl _) z j hy hj
      rw [hmin2, if_pos ⟨hy, hj⟩, hat z j (by omega) (by omega), if_pos ⟨hy, hj⟩, ← e] at k
      exact k
end Go.Proofs.YtlhcehealjdbdaaDoor
/- The document's Resize, in plain Lean: row by row. -/
namespace Go.Proofs.YtlhcehealjdbdaaDoor
open Go.RowKit
set_option linter.unusedSimpArgs false
set_option linter.unusedVariables false

/-- A row of the new size behind x cells. -/
def docRow (C2 : Nat) (l : List Glyph) (x : Nat) : List Glyph := (List.range C2).map fun j => if j < x then (if (at_ l j).w = 1 ∧ j + 1 = C2 then blank (at_ l j).b else at_ l j) else blank 0
theorem doc_len {C2 x : Nat} {l : List Glyph} : (docRow C2 l x).length = C2 := by simp [docRow]
theorem doc_at {C2 x j : Nat} {l : List Glyph} (hj : j < C2) : at_ (docRow C2 l x) j = if j < x then (if (at_ l j).w = 1 ∧ j + 1 = C2 then blank (at_ l j).b else at_ l j) else blank 0 := by
  show (docRow C2 l x).getD j g0 = _
  unfold docRow
  rw [List.getD_eq_getElem?_getD, List.getElem?_map, List.getElem?_range hj]
  rfl
theorem doc_zero {C2 : Nat} {l : List Glyph} : docRow C2 l 0 = List.replicate C2 (blank 0) := by
  refine gext (by rw [doc_len, List.length_replicate]) fun j hj => ?_
  rw [doc_len] at hj
  show at_ _ j = _
  rw [doc_at hj, if_neg (by omega), List.getD_eq_getElem?_getD, List.getElem?_replicate, if_pos hj]
  rfl
theorem doc_step {C2 x : Nat} {l : List Glyph} (hx : x < C2) : docRow C2 l (x + 1) = (docRow C2 l x).set x (if (at_ l x).w = 1 ∧ x + 1 = C2 then blank (at_ l x).b else at_ l x) := by
  refine gext (by rw [List.length_set, doc_len, doc_len]) fun j hj => ?_
  rw [doc_len] at hj
  show at_ _ j = at_ _ j
  by_cases e : x = j
  · subst e
    rw [doc_at hj, if_pos (by omega), at_set_eq (by rw [doc_len]; exact hx)]
  · rw [doc_at hj, at_set_ne e, doc_at hj]
    by_cases q : j < x
    · rw [if_pos q, if_pos (by omega)]
    · rw [if_neg q, if_neg (by omega)]
theorem fix_at {X : List Glyph} {i j : Nat} (hj : j < X.length) : at_ (fixAt X i) j = if j = i ∧ (at_ X i).w = 1 then blank (at_ X i).b else at_ X j := by
  unfold fixAt
  by_cases h : (at_ X i).w = 1
  · rw [if_pos h]
    by_cases e : i = j
    · subst e
      rw [at_set_eq hj, if_pos ⟨rfl, h⟩]
    · rw [at_set_ne e, if_neg (fun k => e k.1.symm)]
  · rw [if_neg h, if_neg (fun k => h k.2)]
/-- Behind k rows: the rows. -/
theorem rz_rows {C R C2 R2 : Nat} {xs : List Glyph} (h : GridOk C R xs) (hC2 : 1 ≤ C2) : ∀ k, k ≤ R → k ≤ R2 → ∀ z, z < R2 → rowOf C2 z (rzF C C2 R2 xs k) = if z < k then docRow C2 (rowOf C z xs) (min C C2) else List.replicate C2 (blank 0)
  | 0, _, _, z, hz => by
    rw [if_neg (by omega)]
    exact row_rep hz
  | k + 1, h1, h2, z, hz => by
    have hl := h.2.2.2.2.1
    have ih := rz_rows (C2 := C2) (R2 := R2) h hC2 k (by omega) (by omega)
    have hlen := rzF_len (C2 := C2) (R2 := R2) hl k (by omega) (by omega)
    have hlen1 := rzF_len (C2 := C2) (R2 := R2) hl (k + 1) h1 h2
    have hm := mul_row (c := C2) (show k < R2 by omega)
    have hrl : (rowOf C k xs).length = C := row_len (r := R) hl (show k < R by omega)
    have hlast := last_ok (h.2.2.2.2.2 k (by omega))
    rw [hrl] at hlast
    have hC1 := h.1
    obtain ⟨K, hK⟩ : ∃ K, min C C2 = K := ⟨_, rfl⟩
    rw [hK] at ih ⊢
    have hd : k * C2 + K ≤ (rzF C C2 R2 xs k).length := by rw [hlen]; omega
    have hr : K ≤ (rowOf C k xs).length := by rw [hrl]; omega
    have hpl := part_len hd hr
    have hat : at_ (partP (rzF C C2 R2 xs k) (k * C2) (rowOf C k xs) K) (k * C2 + K - 1) = at_ (rowOf C k xs) (K - 1) := by
      rw [part_at hd hr, if_pos ⟨by omega, by omega⟩, show k * C2 + K - 1 - k * C2 = K - 1 from by omega]
    have hmz := mul_row (c := C2) hz
    refine gext ?_ fun j hj => ?_
    · rw [row_len hlen1 hz]
      split
      · exact doc_len.symm
      · exact List.length_replicate.symm
    · rw [row_len hlen1 hz] at hj
      show at_ (rowOf C2 z _) j = at_ _ j
      rw [rowAt hj, rzF, hK, fix_at (by rw [hpl, hlen]; omega), hat, part_at hd hr]
      by_cases e : z = k
      · subst e
        rw [if_pos (show z < z + 1 by omega), doc_at hj]
        by_cases q : j < K
        · rw [if_pos q, if_pos (c := z * C2 ≤ z * C2 + j ∧ z * C2 + j < z * C2 + K) ⟨by omega, by omega⟩, show z * C2 + j - z * C2 = j from by omega]
          by_cases e2 : j = K - 1
          · subst e2
            by_cases w1 : (at_ (rowOf C z xs) (K - 1)).w = 1
            · have hKC : K = C2 := by
                rcases Nat.lt_or_ge C C2 with a1 | a1
                · have : K = C := by omega
                  rw [this] at w1
                  exact absurd w1 hlast
                · omega
              rw [if_pos ⟨by omega, w1⟩, if_pos ⟨w1, by omega⟩]
            · rw [if_neg (fun k => w1 k.2), if_neg (fun k => w1 k.1)]
          · rw [if_neg (fun k => e2 (by omega)), if_neg (fun k => e2 (by omega))]
        · rw [if_neg q, if_neg (fun k => q (by omega)), if_neg (fun k => q (by omega))]
          have i2 := congrArg (fun l => at_ l j) (ih z hz)
          simp only [rowAt hj] at i2
          rw [i2, if_neg (by omega)]
          show (List.replicate C2 (blank 0)).getD j g0 = _
          rw [List.getD_eq_getElem?_getD, List.getElem?_replicate, if_pos hj]
          rfl
      · have ho := other_row (c := C2) e hj
        rw [if_neg (fun q => ho ⟨by omega, by omega⟩), if_neg (fun q => ho ⟨q.1, by omega⟩)]
        have i2 := congrArg (fun l => at_ l j) (ih z hz)
        simp only [rowAt hj] at i2
        rw [i2]
        by_cases q : z < k
        · rw [if_pos q, if_pos (by omega)]
        · rw [if_neg q, if_neg (by omega)]
end Go.Proofs.YtlhcehealjdbdaaDoor
/- A grid of another size: the document's. -/
namespace Go.Proofs.YtlhcehealjdbdaaDoor
open Go.RowKit
set_option linter.unusedSimpArgs false
set_option linter.unusedVariables false
attribute [local go_sem] alloc_drewN setCell_drewN


def ZRel (w2 : World) (C2 : Nat) (M : List Glyph) (q : Nat) (vo : Value) (wr : World) : Prop := RowsAt wr w2.heap.size vo (rowsL C2 q M) ∧ Below w2.heap.size w2 wr
theorem rz_not {c r c2 r2 : Int} {xs : List Glyph} (h : (fitsB c2 r2 && gridMay c r xs) = false) : rzI c r xs c2 r2 c2 = 0 ∧ rzI c r xs c2 r2 r2 = 0 ∧ resizeP c r xs c2 r2 = [] := by
  unfold rzI resizeP
  rw [h]
  exact ⟨rfl, rfl, rfl⟩
theorem fits_no {c r : Int} (h : ¬ (1 ≤ c ∧ c ≤ 80 ∧ 1 ≤ r ∧ r ≤ 24)) : fitsB c r = false := Bool.eq_false_iff.2 fun k => h (fits_iff.1 k)
set_option maxRecDepth 10000 in
set_option maxHeartbeats 4000000 in
theorem ref_resize_any (c r c2 r2 : Int) (a : Option Addr) (n cp : Nat) (xs : List Glyph) (w : World) (hl : Cells w a n xs) (hcp : n ≤ cp) :
    Calls Tryd.prog 67 #[.agg #[.int .i64 c, .int .i64 r, .slice a n cp], .int .i64 c2, .int .i64 r2] w (GG (rzI c r xs c2 r2 c2) (rzI c r xs c2 r2 r2) (resizeP c r xs c2 r2) w) := by
  obtain rfl := hl.1
  have HL := Lib.hid hl
  clear hl
  have B0 : Hid (Below w.heap.size w ((w.alloc (.cells #[.int .i64 c, .int .i64 r, .slice a xs.length cp] 49)).alloc (.cells #[.int .i64 0, .int .i64 0, .slice none 0 0] 49))) := ((Below.refl _ _).alloc (Nat.le_refl _) _).alloc (by simp) _
  have G0 : Hid (Own ((w.alloc (.cells #[.int .i64 c, .int .i64 r, .slice a xs.length cp] 49)).alloc (.cells #[.int .i64 0, .int .i64 0, .slice none 0 0] 49)) w.heap.size 49 #[.int .i64 c, .int .i64 r, .slice a xs.length cp]) := (Own.new w 49 _).alloc _
  have A0' : Own ((w.alloc (.cells #[.int .i64 c, .int .i64 r, .slice a xs.length cp] 49)).alloc (.cells #[.int .i64 0, .int .i64 0, .slice none 0 0] 49)) (w.heap.size + 1) 49 #[.int .i64 0, .int .i64 0, .slice none 0 0] := by
    have h := Own.new (w.alloc (.cells #[.int .i64 c, .int .i64 r, .slice a xs.length cp] 49)) 49 #[.int .i64 0, .int .i64 0, .slice none 0 0]
    simpa using h
  have A0 := Lib.hid A0'
  have hz0 : w.heap.size + 2 ≤ ((w.alloc (.cells #[.int .i64 c, .int .i64 r, .slice a xs.length cp] 49)).alloc (.cells #[.int .i64 0, .int .i64 0, .slice none 0 0] 49)).heap.size := by simp
  clear A0'
  have g0 := Own.cell G0.out 0
  have g1 := Own.cell G0.out 1
  have g2 := Own.cell G0.out 2
  simp only [List.getElem?_toArray, List.getElem?_cons_zero, List.getElem?_cons_succ] at g0 g1 g2
  go_enter Tryd.func67, Tryd.ntmps67
  go_wp2_with fail
  generalize (w.alloc (.cells #[.int .i64 c, .int .i64 r, .slice a xs.length cp] 49)).alloc (.cells #[.int .i64 0, .int .i64 0, .slice none 0 0] 49) = w0 at B0 G0 A0 hz0 g0 g1 g2 ⊢
  refine (ref_rows_any c r a xs.length cp xs w0 (HL.out.below B0.out) hcp).mono ?_
  intro e w1 hp
  unfold RowsPost at hp
  obtain ⟨mb, hmb⟩ : ∃ mb, gridMay c r xs = mb := ⟨_, rfl⟩
  cases mb with
  | false =>
    rw [if_neg (by rw [hmb]; decide)] at hp
    obtain ⟨rfl, b1⟩ := hp
    have B1 : Hid (Below w.heap.size w w1) := B0.out.trans (b1.mono B0.out.size)
    have A1 := Lib.hid (A0.out.below b1 A0.out.lt)
    have HF := Lib.hid (rz_not (c2 := c2) (r2 := r2) (show (fitsB c2 r2 && gridMay c r xs) = false by rw [hmb, Bool.and_false]))
    clear b1 g0 g1 g2 hmb
    have hA := A1.out
    go_wp2_with (first
      | (refine gvstore_list rfl _ _ rfl (c := 0) (r := 0) (sa := none) (sn := 0) (sc := 0) rfl rfl hA ?_; intro w2 o2 k2; have O2 := Lib.hid o2; have B2 : Hid (Below w.heap.size w w2) := below_grown B1.out k2 (by omega) B1.out.size; clear o2 k2 hA)
      | go_in)
    have g0 := Own.cell O2.out 0
    have g1 := Own.cell O2.out 1
    have g2 := Own.cell O2.out 2
    simp only [List.getElem?_toArray, List.getElem?_cons_zero, List.getElem?_cons_succ] at g0 g1 g2
    (try simp only [Exit.inBlock, Exit.then])
    refine bodyPost_ret (v := .agg #[.int .i64 0, .int .i64 0, .slice none 0 0]) (by simp [results, Tryd.results67, go_sem, g0, g1, g2]) rfl ?_
    obtain ⟨h1, h2, h3⟩ := HF.out
    rw [h1, h2, h3]
    exact ⟨_, rfl, CRow.nil _ _, B2.out⟩
  | true =>
    rw [if_pos hmb] at hp
    obtain ⟨v1, rfl, r1, b1⟩ := hp
    have B1 : Hid (Below w.heap.size w w1) := B0.out.trans (b1.mono B0.out.size)
    have A1 := Lib.hid (A0.out.below b1 A0.out.lt)
    have G1 := Lib.hid (G0.out.below b1 G0.out.lt)
    have HMB := Lib.hid hmb
    clear g0 g1 g2 b1
    cases t1 : decide (c2 < 1) with
    | true =>
      have HF := Lib.hid (rz_not (c := c) (r := r) (xs := xs) (show (fitsB c2 r2 && gridMay c r xs) = false by rw [fits_no (fun k => by have := of_decide_eq_true t1; omega)]; rfl))
      clear hmb
      have hA := A1.out
      go_wp2_with (first
        | (refine gvstore_list rfl _ _ rfl (c := 0) (r := 0) (sa := none) (sn := 0) (sc := 0) rfl rfl hA ?_; intro w2 o2 k2; have O2 := Lib.hid o2; have B2 : Hid (Below w.heap.size w w2) := below_grown B1.out k2 (by omega) B1.out.size; clear o2 k2 hA)
        | go_in)
      have g0 := Own.cell O2.out 0
      have g1 := Own.cell O2.out 1
      have g2 := Own.cell O2.out 2
      simp only [List.getElem?_toArray, List.getElem?_cons_zero, List.getElem?_cons_succ] at g0 g1 g2
      (try simp only [Exit.inBlock, Exit.then])
      refine bodyPost_ret (v := .agg #[.int .i64 0, .int .i64 0, .slice none 0 0]) (by simp [results, Tryd.results67, go_sem, g0, g1, g2]) rfl ?_
      obtain ⟨h1, h2, h3⟩ := HF.out
      rw [h1, h2, h3]
      exact ⟨_, rfl, CRow.nil _ _, B2.out⟩
    | false =>
    cases t2 : decide (80 < c2) with
    | true =>
      have HF := Lib.hid (rz_not (c := c) (r := r) (xs := xs) (show (fitsB c2 r2 && gridMay c r xs) = false by rw [fits_no (fun k => by have := of_decide_eq_true t2; omega)]; rfl))
      clear hmb
      have hA := A1.out
      go_wp2_with (first
        | (refine gvstore_list rfl _ _ rfl (c := 0) (r := 0) (sa := none) (sn := 0) (sc := 0) rfl rfl hA ?_; intro w2 o2 k2; have O2 := Lib.hid o2; have B2 : Hid (Below w.heap.size w w2) := below_grown B1.out k2 (by omega) B1.out.size; clear o2 k2 hA)
        | go_in)
      have g0 := Own.cell O2.out 0
      have g1 := Own.cell O2.out 1
      have g2 := Own.cell O2.out 2
      simp only [List.getElem?_toArray, List.getElem?_cons_zero, List.getElem?_cons_succ] at g0 g1 g2
      (try simp only [Exit.inBlock, Exit.then])
      refine bodyPost_ret (v := .agg #[.int .i64 0, .int .i64 0, .slice none 0 0]) (by simp [results, Tryd.results67, go_sem, g0, g1, g2]) rfl ?_
      obtain ⟨h1, h2, h3⟩ := HF.out
      rw [h1, h2, h3]
      exact ⟨_, rfl, CRow.nil _ _, B2.out⟩
    | false =>
    cases t3 : decide (r2 < 1) with
    | true =>
      have HF := Lib.hid (rz_not (c := c) (r := r) (xs := xs) (show (fitsB c2 r2 && gridMay c r xs) = false by rw [fits_no (fun k => by have := of_decide_eq_true t3; omega)]; rfl))
      clear hmb
      have hA := A1.out
      go_wp2_with (first
        | (refine gvstore_list rfl _ _ rfl (c := 0) (r := 0) (sa := none) (sn := 0) (sc := 0) rfl rfl hA ?_; intro w2 o2 k2; have O2 := Lib.hid o2; have B2 : Hid (Below w.heap.size w w2) := below_grown B1.out k2 (by omega) B1.out.size; clear o2 k2 hA)
        | go_in)
      have g0 := Own.cell O2.out 0
      have g1 := Own.cell O2.out 1
      have g2 := Own.cell O2.out 2
      simp only [List.getElem?_toArray, List.getElem?_cons_zero, List.getElem?_cons_succ] at g0 g1 g2
      (try simp only [Exit.inBlock, Exit.then])
      refine bodyPost_ret (v := .agg #[.int .i64 0, .int .i64 0, .slice none 0 0]) (by simp [results, Tryd.results67, go_sem, g0, g1, g2]) rfl ?_
      obtain ⟨h1, h2, h3⟩ := HF.out
      rw [h1, h2, h3]
      exact ⟨_, rfl, CRow.nil _ _, B2.out⟩
    | false =>
    cases t4 : decide (24 < r2) with
    | true =>
      have HF := Lib.hid (rz_not (c := c) (r := r) (xs := xs) (show (fitsB c2 r2 && gridMay c r xs) = false by rw [fits_no (fun k => by have := of_decide_eq_true t4; omega)]; rfl))
      clear hmb
      have hA := A1.out
      go_wp2_with (first
        | (refine gvstore_list rfl _ _ rfl (c := 0) (r := 0) (sa := none) (sn := 0) (sc := 0) rfl rfl hA ?_; intro w2 o2 k2; have O2 := Lib.hid o2; have B2 : Hid (Below w.heap.size w w2) := below_grown B1.out k2 (by omega) B1.out.size; clear o2 k2 hA)
        | go_in)
      have g0 := Own.cell O2.out 0
      have g1 := Own.cell O2.out 1
      have g2 := Own.cell O2.out 2
      simp only [List.getElem?_toArray, List.getElem?_cons_zero, List.getElem?_cons_succ] at g0 g1 g2
      (try simp only [Exit.inBlock, Exit.then])
      refine bodyPost_ret (v := .agg #[.int .i64 0, .int .i64 0, .slice none 0 0]) (by simp [results, Tryd.results67, go_sem, g0, g1, g2]) rfl ?_
      obtain ⟨h1, h2, h3⟩ := HF.out
      rw [h1, h2, h3]
      exact ⟨_, rfl, CRow.nil _ _, B2.out⟩
    | false =>
      go_upto_region 5 with fail
      have q1 := of_decide_eq_false t1
      have q2 := of_decide_eq_false t2
      have q3 := of_decide_eq_false t3
      have q4 := of_decide_eq_false t4
      obtain ⟨C2, rfl⟩ : ∃ C2 : Nat, c2 = C2 := ⟨c2.toNat, by omega⟩
      obtain ⟨R2, rfl⟩ : ∃ R2 : Nat, r2 = R2 := ⟨r2.toNat, by omega⟩
      obtain ⟨C, R, rfl, rfl, hgo⟩ := gmay_iff.1 hmb
      have HGO := Lib.hid hgo
      obtain ⟨o1, o2, o3, o4, o5, o6⟩ := hgo
      rw [Int.toNat_natCast, Int.toNat_natCast] at r1
      obtain ⟨la0, lc, rfl⟩ := rows_form r1
      rw [rowsL_len] at r1 ⊢
      obtain ⟨gl, rfl, _, hglo, hgl, _⟩ := rows_addr r1 (by omega)
      have Lr1 := Lib.hid r1
      have HO5 := Lib.hid o5
      have hok : (fitsB C2 R2 && gridMay C R xs) = true := by rw [fits_iff.2 ⟨by omega, by omega, by omega, by omega⟩, hmb]; rfl
      have HOI : Hid (rzI C R xs C2 R2 C2 = C2 ∧ rzI C R xs C2 R2 R2 = R2) := by unfold rzI; rw [hok]; exact ⟨rfl, rfl⟩
      obtain ⟨N, hN⟩ : ∃ N, min R R2 = N := ⟨_, rfl⟩
      obtain ⟨M, hM⟩ : ∃ M, rzF C C2 R2 xs N = M := ⟨_, rfl⟩
      have hF0 : resizeP C R xs C2 R2 = M := by
        unfold resizeP
        rw [hok, if_pos rfl]
        simp only [Int.toNat_natCast]
        rw [hN]
        exact hM
      have HFM := Lib.hid hF0
      have hMl : M.length = C2 * R2 := by rw [← hM]; exact rzF_len o5 N (by omega) (by omega)
      have HML := Lib.hid hMl
      have HRZ : Hid (∀ z, z < R2 → rowOf C2 z M = if z < N then docRow C2 (rowOf C z xs) (min C C2) else List.replicate C2 (blank 0)) := fun z hz => by rw [← hM]; exact rz_rows HGO.out (by omega) N (by omega) (by omega) z hz
      have HN := Lib.hid hN
      have hC21 : 1 ≤ C2 := by omega
      have hC28 : C2 ≤ 80 := by omega
      have hR21 : 1 ≤ R2 := by omega
      have hR224 : R2 ≤ 24 := by omega
      have HL0 : Hid (ZRel w1 C2 M 0 (.slice (some ⟨w1.heap.size, 0, none⟩) 0 0) (w1.alloc (.cells #[] 29))) := ⟨RowsAt.nil w1, (Below.refl _ _).alloc (Nat.le_refl _) _⟩
      clear q1 q2 q3 q4 t1 t2 t3 t4 hmb hok hF0 hM hN hMl o5 o6 r1
      generalize w1.alloc (.cells #[] 29) = w2 at HL0 ⊢
      go_wp2_with fail
      go_loopw [9, 10] (fun vo v wr => ∃ q : Nat, q ≤ R2 ∧ v = .int .i64 q ∧ Hid (ZRel w1 C2 M q vo wr)) (fun _ v _ => R2 - (intOf v).toNat)
      case atStart => exact ⟨0, by omega, rfl, HL0⟩
      case round =>
        obtain ⟨q, hq1, rfl, HR⟩ := hrel
        rename World => wr
        clear HL0
        obtain ⟨oa, oc, hvo⟩ := rows_form HR.out.1
        rw [rowsL_len] at hvo
        subst hvo
        by_cases hq : q < R2
        · have hdq : decide (q < R2) = true := decide_eq_true hq
          have HQ : Hid (q < R2) := hq
          go_wp2_with fail
          refine (blanks_any C2 hC28 0 0 0 0 _).mono ?_
          rintro e w4 ⟨v4, rfl, r4, b4⟩
          have hrl4 : (List.replicate C2 (blank 0)).length = C2 := List.length_replicate
          obtain ⟨ra, rc, rfl, _⟩ := r4.cells
          rw [hrl4] at r4 ⊢
          obtain ⟨g, rfl⟩ := crow_addr r4 (by omega)
          have hgb : wr.heap.size ≤ g := (crow_at r4 (k := 0) (by omega)).2.1
          have HX0 : Hid (CRow w4 wr.heap.size (.slice (some ⟨g, 0, none⟩) C2 rc) (docRow C2 (rowOf C q xs) 0) ∧ Below wr.heap.size wr w4) := ⟨by rw [doc_zero]; exact r4, b4⟩
          clear r4 b4 hrl4
          by_cases hqR : q < R
          · have d1 : decide (q < R) = true := decide_eq_true hqR
            obtain ⟨K, hK⟩ : ∃ K, min C C2 = K := ⟨_, rfl⟩
            have hrow : rowOf C2 q M = docRow C2 (rowOf C q xs) K := by rw [HRZ.out q HQ.out, if_pos (by have := HN.out; omega), hK]
            have HROW := Lib.hid hrow
            have hKC : K ≤ C := by omega
            have hKC2 : K ≤ C2 := by omega
            have HK := Lib.hid hK
            have HRL : Hid ((rowOf C q xs).length = C) := row_len HO5.out hqR
            obtain ⟨la', lb, hcw, hrw, _⟩ := rows_at (Lr1.out.below HR.out.2) hqR
            rw [rowsL_at hqR, HRL.out] at hcw hrw
            have HLC := Lib.hid (cells_of hrw)
            obtain ⟨lab, lao, hla, _, _⟩ := HLC.out.2.2 (by omega)
            subst hla
            have HCW := Lib.hid hcw
            have hglr : gl < wr.heap.size := Nat.lt_of_lt_of_le hgl HR.out.2.size
            have hqi0 : (0 : Int) ≤ (q : Int) := by omega
            have hqi1 : (q : Int) < (R : Int) := by omega
            clear hrow hK hcw hrw hqR
            go_wp2_with fail
            go_loopw [12] (fun v wx => ∃ x : Nat, x ≤ K ∧ v = .int .i64 x ∧ Hid (CRow wx wr.heap.size (.slice (some ⟨g, 0, none⟩) C2 rc) (docRow C2 (rowOf C q xs) x) ∧ Below wr.heap.size wr wx)) (fun v _ => K - (intOf v).toNat)
            case atStart => exact ⟨0, by omega, rfl, HX0⟩
            case round =>
              obtain ⟨x, hx1, rfl, HX⟩ := hrel
              rename World => wx
              clear HX0
              have GX := Lib.hid ((G1.out.below HR.out.2 G1.out.lt).below HX.out.2 (G1.out.below HR.out.2 G1.out.lt).lt)
              have hcwx := (HX.out.2.cell (p := ⟨gl, q, none⟩) hglr).trans HCW.out
              have g0 := Own.cell GX.out 0
              have g1 := Own.cell GX.out 1
              have g2 := Own.cell GX.out 2
              simp only [List.getElem?_toArray, List.getElem?_cons_zero, List.getElem?_cons_succ] at g0 g1 g2
              by_cases hx : x < K
              · have hxC2 : x < C2 := by omega
                have hxC : x < C := by omega
                have d2 : decide (x < C2) = true := decide_eq_true hxC2
                have d3 : decide (x < C) = true := decide_eq_true hxC
                have hxi0 : (0 : Int) ≤ (x : Int) := by omega
                have hxi1 : (x : Int) < (C2 : Int) := by omega
                have hxi2 : (x : Int) < (C : Int) := by omega
                have HXK : Hid (x < K) := hx
                obtain ⟨z, hz⟩ : ∃ z, at_ (rowOf C q xs) x = z := ⟨_, rfl⟩
                have HZ := Lib.hid hz
                obtain ⟨lab2, lao2, he, _, hcell⟩ := (HLC.out.below HX.out.2).2.2 (by omega)
                injection he with he
                injection he with e1 e2
                subst e1 e2
                have hgx := hcell x (by omega)
                rw [show (rowOf C q xs).getD x Go.Proofs.YtlhcehealjdbdaaDoor.g0 = z from hz] at hgx
                obtain ⟨y0, y1, y2, y3, y4, y5⟩ := hgx
                clear hz hcell hx
                go_upto_region 13 with (first
                  | (refine gstore_list rfl _ _ rfl (d := z) (k := x) rfl rfl HX.out.1 hxC2 ?_; intro w6 r6 k6; have X6 : Hid (CRow w6 wr.heap.size (.slice (some ⟨g, 0, none⟩) C2 rc) ((docRow C2 (rowOf C q xs) x).set x z) ∧ Below wr.heap.size wr w6) := ⟨r6, below_grown HX.out.2 k6 hgb HX.out.2.size⟩; clear r6 k6)
                  | go_in)
                (try simp only [Act.put])
                clear g0 g1 g2 hcwx y0 y1 y2 y3 y4 y5
                have hrd := (crow_at X6.out.1 (k := x) hxC2).1
                rw [show ((docRow C2 (rowOf C q xs) x).set x z).getD x g0 = z from at_set_eq (by rw [doc_len]; exact hxC2)] at hrd
                obtain ⟨e0, e1, e2, e3, e4, e5⟩ := hrd
                cases w1 : (z.w == 1) with
                | false =>
                  have X8 : Hid (CRow w6 wr.heap.size (.slice (some ⟨g, 0, none⟩) C2 rc) (docRow C2 (rowOf C q xs) (x + 1)) ∧ Below wr.heap.size wr w6) := by rw [doc_step hxC2, HZ.out, if_neg (fun k => by rw [k.1] at w1; cases w1)]; exact X6.out
                  go_wp2_with fail
                  go_roundw
                  case rel => exact ⟨x + 1, HXK.out, by go_num, X8⟩
                  case measure => have := HXK.out; simp [intOf]; omega
                | true =>
                cases w2 : ((x : Int) == (C2 : Int) - 1) with
                | false =>
                  have X8 : Hid (CRow w6 wr.heap.size (.slice (some ⟨g, 0, none⟩) C2 rc) (docRow C2 (rowOf C q xs) (x + 1)) ∧ Below wr.heap.size wr w6) := by rw [doc_step hxC2, HZ.out, if_neg (fun k => beq_eq_false_iff_ne.1 w2 (by omega))]; exact X6.out
                  go_wp2_with fail
                  go_roundw
                  case rel => exact ⟨x + 1, HXK.out, by go_num, X8⟩
                  case measure => have := HXK.out; simp [intOf]; omega
                | true =>
                  have hl8 := eq_of_beq w2
                  have HDS : Hid (docRow C2 (rowOf C q xs) (x + 1) = (docRow C2 (rowOf C q xs) x).set x (blank z.b)) := by
                    have k : docRow C2 (rowOf C q xs) (x + 1) = (docRow C2 (rowOf C q xs) x).set x (blank z.b) := by rw [doc_step hxC2, HZ.out, if_pos ⟨eq_of_beq w1, by omega⟩]
                    exact k
                  clear hl8
                  go_wp2_with fail
                  refine (ref_blank_any z.f z.b z.a z.l _).mono ?_
                  rintro e w7 ⟨rfl, b7⟩
                  have X7 : Hid (CRow w7 wr.heap.size (.slice (some ⟨g, 0, none⟩) C2 rc) ((docRow C2 (rowOf C q xs) x).set x z) ∧ Below wr.heap.size wr w7) := ⟨X6.out.1.below b7, X6.out.2.trans (b7.mono X6.out.2.size)⟩
                  clear b7 e0 e1 e2 e3 e4 e5
                  go_wp2_with (first
                    | (refine gstore_list rfl _ _ rfl (d := blank z.b) (k := x) rfl rfl X7.out.1 hxC2 ?_; intro w8 r8 k8; have X8 : Hid (CRow w8 wr.heap.size (.slice (some ⟨g, 0, none⟩) C2 rc) (docRow C2 (rowOf C q xs) (x + 1)) ∧ Below wr.heap.size wr w8) := ⟨by rw [HDS.out]; rw [List.set_set] at r8; exact r8, below_grown X7.out.2 k8 hgb X7.out.2.size⟩; clear r8 k8)
                    | go_in)
                  go_roundw
                  case rel => exact ⟨x + 1, HXK.out, by go_num, X8⟩
                  case measure => have := HXK.out; simp [intOf]; omega
              · obtain rfl : K = x := by omega
                cases d2 : decide (K < C2) with
                | false =>
                  clear hx
                  have hnew := Own.new wx 29 #[.slice (some ⟨g, 0, none⟩) C2 rc]
                  have hq24 : q ≤ 24 := by have := HQ.out; omega
                  go_wp2_with (first
                    | (at_builtin; refine rapp rfl _ _ rfl rfl ((HR.out.1.below HX.out.2).below ((Below.refl _ _).alloc (Nat.le_refl _) _)) rfl (Own.cell hnew 0) ((HX.out.1.up (Nat.zero_le _)).alloc _) (by rw [rowsL_len]; omega) (by have := HX.out.2.size; have := HR.out.2.size; simp; omega) ?_; intro v5 w5 r5 k5 b5; have HY : Hid (ZRel w1 C2 M (q + 1) v5 w5) := ⟨by rw [← rowsL_next, HROW.out]; exact r5, ((HR.out.2.trans (HX.out.2.mono HR.out.2.size)).alloc (Nat.le_trans HR.out.2.size HX.out.2.size) _).trans b5⟩; clear r5 k5 b5)
                    | go_in)
                  go_roundw
                  case rel => exact ⟨q + 1, HQ.out, by go_num, HY⟩
                  case measure => have := HQ.out; simp [intOf]; omega
                | true =>
                  have d3 : decide (K < C) = false := decide_eq_false (by have := of_decide_eq_true d2; have := HK.out; omega)
                  clear hx
                  have hnew := Own.new wx 29 #[.slice (some ⟨g, 0, none⟩) C2 rc]
                  have hq24 : q ≤ 24 := by have := HQ.out; omega
                  go_wp2_with (first
                    | (at_builtin; refine rapp rfl _ _ rfl rfl ((HR.out.1.below HX.out.2).below ((Below.refl _ _).alloc (Nat.le_refl _) _)) rfl (Own.cell hnew 0) ((HX.out.1.up (Nat.zero_le _)).alloc _) (by rw [rowsL_len]; omega) (by have := HX.out.2.size; have := HR.out.2.size; simp; omega) ?_; intro v5 w5 r5 k5 b5; have HY : Hid (ZRel w1 C2 M (q + 1) v5 w5) := ⟨by rw [← rowsL_next, HROW.out]; exact r5, ((HR.out.2.trans (HX.out.2.mono HR.out.2.size)).alloc (Nat.le_trans HR.out.2.size HX.out.2.size) _).trans b5⟩; clear r5 k5 b5)
                    | go_in)
                  go_roundw
                  case rel => exact ⟨q + 1, HQ.out, by go_num, HY⟩
                  case measure => have := HQ.out; simp [intOf]; omega
          · have HROW : Hid (rowOf C2 q M = docRow C2 (rowOf C q xs) 0) := by
              have k : rowOf C2 q M = docRow C2 (rowOf C q xs) 0 := by rw [HRZ.out q HQ.out, if_neg (by have := HN.out; omega), doc_zero]
              exact k
            have d1 : decide (q < R) = false := decide_eq_false hqR
            go_wp2_with fail
            go_loopw [12] (fun v wx => v = .int .i64 0 ∧ Hid (CRow wx wr.heap.size (.slice (some ⟨g, 0, none⟩) C2 rc) (docRow C2 (rowOf C q xs) 0) ∧ Below wr.heap.size wr wx)) (fun _ _ => 0)
            case atStart => exact ⟨rfl, HX0⟩
            case round =>
              obtain ⟨rfl, HX⟩ := hrel
              rename World => wx
              clear HX0 hqR
              have hnew := Own.new wx 29 #[.slice (some ⟨g, 0, none⟩) C2 rc]
              have hq24 : q ≤ 24 := by have := HQ.out; omega
              go_wp2_with (first
                | (at_builtin; refine rapp rfl _ _ rfl rfl ((HR.out.1.below HX.out.2).below ((Below.refl _ _).alloc (Nat.le_refl _) _)) rfl (Own.cell hnew 0) ((HX.out.1.up (Nat.zero_le _)).alloc _) (by rw [rowsL_len]; omega) (by have := HX.out.2.size; have := HR.out.2.size; simp; omega) ?_; intro v5 w5 r5 k5 b5; have HY : Hid (ZRel w1 C2 M (q + 1) v5 w5) := ⟨by rw [← rowsL_next, HROW.out]; exact r5, ((HR.out.2.trans (HX.out.2.mono HR.out.2.size)).alloc (Nat.le_trans HR.out.2.size HX.out.2.size) _).trans b5⟩; clear r5 k5 b5)
                | go_in)
              go_roundw
              case rel => exact ⟨q + 1, HQ.out, by go_num, HY⟩
              case measure => have := HQ.out; simp [intOf]; omega
        · obtain rfl : R2 = q := by omega
          have hdq : decide (R2 < R2) = false := decide_eq_false hq
          obtain ⟨go, hgo2, _, hbo, hbo2, hco⟩ := rows_addr HR.out.1 (by omega)
          subst hgo2
          have HCL : Hid (∀ i, i < R2 → ((rowsL C2 R2 M).getD i []).length = C2) := fun i hi => by rw [rowsL_at hi]; exact row_len HML.out hi
          have HFL := Lib.hid (rows_flat HML.out)
          have B4 : Hid (Below w.heap.size w wr) := B1.out.trans (HR.out.2.mono B1.out.size)
          have A4 := Lib.hid (A1.out.below HR.out.2 A1.out.lt)
          clear hq
          go_wp2_with fail
          refine (of_any C2 R2 go oc w1.heap.size (rowsL C2 R2 M) _ HR.out.1 hR21 hR224 hC21 hC28 HCL.out).mono ?_
          rintro e w10 ⟨v10, rfl, r10, b10⟩
          rw [HFL.out] at r10
          obtain ⟨va, vc, rfl, _⟩ := r10.cells
          have RR10 := Lib.hid r10
          have B10 : Hid (Below w.heap.size w w10) := B4.out.trans (b10.mono B4.out.size)
          have A10 := Lib.hid (A4.out.below b10 A4.out.lt)
          have ha10 := A4.out.lt
          clear r10 b10
          have hA := A10.out
          go_wp2_with (first
            | (refine gvstore_list rfl _ _ rfl (c := C2) (r := R2) (sa := va) (sc := vc) rfl rfl hA ?_; intro w11 o11 k11; have O11 := Lib.hid o11; have B11 : Hid (Below w.heap.size w w11) := below_grown B10.out k11 (by omega) B10.out.size; have R11 := Lib.hid ((crow_other RR10.out k11 ha10).up B4.out.size); clear o11 k11 hA)
            | go_in)
          have g0 := Own.cell O11.out 0
          have g1 := Own.cell O11.out 1
          have g2 := Own.cell O11.out 2
          simp only [List.getElem?_toArray, List.getElem?_cons_zero, List.getElem?_cons_succ] at g0 g1 g2
          (try simp only [Exit.inBlock, Exit.then])
          refine bodyPost_ret (v := .agg #[.int .i64 C2, .int .i64 R2, .slice va M.length vc]) (by simp [results, Tryd.results67, go_sem, g0, g1, g2]) rfl ?_
          rw [HOI.out.1, HOI.out.2, HFM.out]
          exact ⟨_, rfl, R11.out, B11.out⟩
end Go.Proofs.YtlhcehealjdbdaaDoor
