/- The rows of a grid, as the document takes them. -/
import Derived.Test.YtlhcehealjdbdaaDoorGOf
import Derived.Test.YtlhcehealjdbdaaDoorGMay
import Derived.Deep.DeepCutAuto
namespace Go.Proofs.YtlhcehealjdbdaaDoor
open Go.RowKit
set_option linter.unusedSimpArgs false
set_option linter.unusedVariables false
attribute [local go_sem] alloc_drewN setCell_drewN


def rowsL (C R : Nat) (xs : List Glyph) : List (List Glyph) := (List.range R).map fun y => rowOf C y xs
theorem rowsL_len (C R : Nat) (xs : List Glyph) : (rowsL C R xs).length = R := by simp [rowsL]
theorem rowsL_at {C R y : Nat} {xs : List Glyph} (h : y < R) : (rowsL C R xs).getD y [] = rowOf C y xs := by
  unfold rowsL
  rw [List.getD_eq_getElem?_getD, List.getElem?_map, List.getElem?_range h]
  rfl
theorem rowsL_next {C q : Nat} {xs : List Glyph} : rowsL C q xs ++ [rowOf C q xs] = rowsL C (q + 1) xs := by
  unfold rowsL
  rw [List.range_succ, List.map_append]
  rfl
theorem rows_step {C q : Nat} {xs : List Glyph} (h : ∀ y, y < q → RowOk (rowOf C y xs)) (k : RowOk (rowOf C q xs)) : ∀ y, y < q + 1 → RowOk (rowOf C y xs) := fun y hy => by
  rcases Nat.lt_or_ge y q with e | e
  · exact h y e
  · obtain rfl : y = q := by omega
    exact k
theorem rw_ne {w : World} {b g : Nat} {v : Value} {L : List (List Glyph)} {cs : Array Value} (h : RowsAt w b v L) (ho : Own w g 49 cs) : some g ≠ v.ownBlock := by
  obtain ⟨vs, _, k2, _⟩ := h
  intro e
  exact (apart_own k2 ho (by decide)).elim (fun h => by rw [h] at e; cases e) (fun h => h e.symm)
def RowsPost (c r : Int) (xs : List Glyph) (w : World) (e : Ending) (w' : World) : Prop :=
  if gridMay c r xs = true then ∃ v', e = .returned (.tuple #[v', .bool true]) ∧ RowsAt w' w.heap.size v' (rowsL c.toNat r.toNat xs) ∧ Below w.heap.size w w'
  else e = .returned (.tuple #[.slice none 0 0, .bool false]) ∧ Below w.heap.size w w'
def RwRel (w : World) (c r : Int) (C : Nat) (a : Option Addr) (n cp : Nat) (xs : List Glyph) (q : Nat) (vo : Value) (wr : World) : Prop :=
  RowsAt wr w.heap.size vo (rowsL C q xs) ∧ Own wr w.heap.size 49 #[.int .i64 c, .int .i64 r, .slice a n cp] ∧ Below w.heap.size w wr ∧ ∀ y, y < q → RowOk (rowOf C y xs)
set_option maxRecDepth 10000 in
set_option maxHeartbeats 4000000 in
theorem ref_rows_any (c r : Int) (a : Option Addr) (n cp : Nat) (xs : List Glyph) (w : World) (hl : Cells w a n xs) (hcp : n ≤ cp) : Calls Tryd.prog 37 #[.agg #[.int .i64 c, .int .i64 r, .slice a n cp]] w (RowsPost c r xs w) := by
  obtain rfl := hl.1
  have HL := Lib.hid hl
  have hn63 := hl.2.1
  clear hl
  have B0 : Hid (Below w.heap.size w (w.alloc (.cells #[.int .i64 c, .int .i64 r, .slice a xs.length cp] 49))) := (Below.refl _ _).alloc (Nat.le_refl _) _
  have G0 : Hid (Own (w.alloc (.cells #[.int .i64 c, .int .i64 r, .slice a xs.length cp] 49)) w.heap.size 49 #[.int .i64 c, .int .i64 r, .slice a xs.length cp]) := Own.new w 49 _
  have hz0 : (w.alloc (.cells #[.int .i64 c, .int .i64 r, .slice a xs.length cp] 49)).heap.size = w.heap.size + 1 := by simp
  have g0 := Own.cell G0.out 0
  have g1 := Own.cell G0.out 1
  have g2 := Own.cell G0.out 2
  simp only [List.getElem?_toArray, List.getElem?_cons_zero, List.getElem?_cons_succ] at g0 g1 g2
  go_enter Tryd.func37, Tryd.ntmps37
  go_upto_region 1 with fail
  generalize w.alloc (.cells #[.int .i64 c, .int .i64 r, .slice a xs.length cp] 49) = w0 at B0 G0 hz0 g0 g1 g2 ⊢
  obtain ⟨bad, hbad⟩ : ∃ bad, (!(fitsB c r && decide ((xs.length : Int) = c * r))) = bad := ⟨_, rfl⟩
  have HBAD := Lib.hid hbad
  clear hbad
  go_cut [35] (fun v wc => v = .bool bad ∧ w0 = wc)
  case first =>
    cases t1 : decide (c < 1) with
    | true =>
      have HE : Hid (bad = true) := by rw [← HBAD.out]; unfold fitsB; rw [decide_eq_false (p := 1 ≤ c) (by have := of_decide_eq_true t1; omega)]; rfl
      go_wp2_with fail
      go_meet
      exact ⟨by rw [HE.out], rfl⟩
    | false =>
    cases t2 : decide (80 < c) with
    | true =>
      have HE : Hid (bad = true) := by rw [← HBAD.out]; unfold fitsB; rw [decide_eq_false (p := c ≤ 80) (by have := of_decide_eq_true t2; omega)]; simp; exact True.intro
      go_wp2_with fail
      go_meet
      exact ⟨by rw [HE.out], rfl⟩
    | false =>
    cases t3 : decide (r < 1) with
    | true =>
      have HE : Hid (bad = true) := by rw [← HBAD.out]; unfold fitsB; rw [decide_eq_false (p := 1 ≤ r) (by have := of_decide_eq_true t3; omega)]; simp; exact True.intro
      go_wp2_with fail
      go_meet
      exact ⟨by rw [HE.out], rfl⟩
    | false =>
    cases t4 : decide (24 < r) with
    | true =>
      have HE : Hid (bad = true) := by rw [← HBAD.out]; unfold fitsB; rw [decide_eq_false (p := r ≤ 24) (by have := of_decide_eq_true t4; omega)]; simp; exact True.intro
      go_wp2_with fail
      go_meet
      exact ⟨by rw [HE.out], rfl⟩
    | false =>
      have q1 := of_decide_eq_false t1
      have q2 := of_decide_eq_false t2
      have q3 := of_decide_eq_false t3
      have q4 := of_decide_eq_false t4
      obtain ⟨C, rfl⟩ : ∃ C : Nat, c = C := ⟨c.toNat, by omega⟩
      obtain ⟨R, rfl⟩ : ∃ R : Nat, r = R := ⟨r.toNat, by omega⟩
      have hbnd := mul_bound (c := C) (r := R) (by omega) (by omega)
      obtain ⟨P, hP⟩ : ∃ P, C * R = P := ⟨_, rfl⟩
      have k1 : (C : Int) * (R : Int) = (P : Int) := by rw [← hP]; exact (Int.natCast_mul C R).symm
      rw [hP] at hbnd
      have hfit : fitsB C R = true := fits_iff.2 ⟨by omega, by omega, by omega, by omega⟩
      have HE : Hid (bad = !decide ((xs.length : Int) = (P : Int))) := by rw [← HBAD.out, hfit, k1, Bool.true_and]; rfl
      clear hP hfit
      cases t5 : ((xs.length : Int) != (P : Int)) with
      | true =>
        have t6 : (xs.length != P) = true := bne_iff_ne.2 (by have := bne_iff_ne.1 t5; omega)
        have HE2 : Hid (bad = true) := by rw [HE.out, decide_eq_false (bne_iff_ne.1 t5)]; rfl
        clear q1 q2 q3 q4
        go_wp2_with fail
        go_meet
        exact ⟨by rw [HE2.out], rfl⟩
      | false =>
        have t6 : (xs.length != P) = false := bne_eq_false_iff_eq.2 (by have := bne_eq_false_iff_eq.1 t5; omega)
        have HE2 : Hid (bad = false) := by rw [HE.out, decide_eq_true (bne_eq_false_iff_eq.1 t5)]; rfl
        clear q1 q2 q3 q4
        go_wp2_with fail
        go_meet
        exact ⟨by rw [HE2.out], rfl⟩
  case rest =>
    obtain ⟨rfl, rfl⟩ := hcut
    clear g0 g1 g2
    cases bad with
    | true =>
      have HZ : Hid (gridMay c r xs = false) := gmay_no (fun ⟨C, R, e1, e2, h⟩ => by
        have e3 : fitsB c r = true := fits_iff.2 (by have h1 := h.1; have h2 := h.2.1; have h3 := h.2.2.1; have h4 := h.2.2.2.1; omega)
        have e4 : (xs.length : Int) = c * r := by rw [e1, e2, h.2.2.2.2.1]; exact Int.natCast_mul C R
        have := HBAD.out
        rw [e3, decide_eq_true e4] at this
        cases this)
      go_wp2_with fail
      go_ret2
      unfold RowsPost
      rw [if_neg (by rw [HZ.out]; decide)]
      exact ⟨rfl, B0.out⟩
    | false =>
      have hfit : fitsB c r = true ∧ (xs.length : Int) = c * r := by
        have h := HBAD.out
        have h := Bool.and_eq_true_iff.1 (show (fitsB c r && decide ((xs.length : Int) = c * r)) = true by simpa using h)
        exact ⟨h.1, of_decide_eq_true h.2⟩
      obtain ⟨⟨a1, a2, a3, a4⟩, hnn⟩ := (⟨fits_iff.1 hfit.1, hfit.2⟩ : _ ∧ _)
      obtain ⟨C, rfl⟩ : ∃ C : Nat, c = C := ⟨c.toNat, by omega⟩
      obtain ⟨R, rfl⟩ : ∃ R : Nat, r = R := ⟨r.toNat, by omega⟩
      have hn : xs.length = C * R := by have := Int.natCast_mul C R; omega
      have HN := Lib.hid hn
      have hpos : 0 < C * R := Nat.mul_pos (by omega) (by omega)
      have hbnd := mul_bound (c := C) (r := R) (by omega) (by omega)
      rw [← hn] at hbnd hpos
      obtain ⟨ga, goff, rfl, hga, _⟩ := HL.out.2.2 hpos
      have hC8 : C ≤ 80 := by omega
      have hR24 : R ≤ 24 := by omega
      clear hfit hnn hn
      go_upto_region 4 with fail
      have HL0 : Hid (RwRel w C R C (some ⟨ga, goff, none⟩) xs.length cp xs 0 (.slice (some ⟨w0.heap.size, 0, none⟩) 0 0) (w0.alloc (.cells #[] 29))) := by
        obtain ⟨vs, k1, k2, k3⟩ := RowsAt.nil w0
        refine ⟨⟨vs, k1, ?_, k3⟩, G0.out.alloc _, B0.out.alloc B0.out.size _, fun y hy => absurd hy (by omega)⟩
        refine ⟨k2.1, ?_⟩
        rcases k2.2 with hn | ⟨g', cap, cur, h1, h2, h3⟩
        · exact .inl hn
        · exact .inr ⟨g', cap, cur, h1, by omega, h3⟩
      generalize w0.alloc (.cells #[] 29) = w1 at HL0 ⊢
      rw [hz0] at HL0
      clear G0 hz0
      go_wp2_with fail
      go_loopw [4, 5] (fun vo v wr => ∃ q : Nat, q ≤ R ∧ v = .int .i64 q ∧ Hid (RwRel w C R C (some ⟨ga, goff, none⟩) xs.length cp xs q vo wr)) (fun _ v _ => R - (intOf v).toNat)
      case atStart => exact ⟨0, by omega, rfl, HL0⟩
      case round =>
        obtain ⟨q, hq1, rfl, HR⟩ := hrel
        clear HL0
        obtain ⟨oa, oc, hvo⟩ := rows_form HR.out.1
        rw [rowsL_len] at hvo
        subst hvo
        by_cases hq : q < R
        · have hdq : decide (q < R) = true := decide_eq_true hq
          have HQ : Hid (q < R) := hq
          have hmr := mul_row (c := C) hq
          obtain ⟨Z, hZ⟩ : ∃ Z, q * C = Z := ⟨_, rfl⟩
          have k1 : (q : Int) * (C : Int) = (Z : Int) := by rw [← hZ]; exact (Int.natCast_mul q C).symm
          rw [hZ] at hmr
          have hZn : Z + C ≤ xs.length := by rw [HN.out]; exact hmr
          have i1 : (Z : Int) + C ≤ (cp : Int) := by omega
          have i2 : (0 : Int) ≤ (Z : Int) := by omega
          have i3 : (Z : Int) ≤ (Z : Int) + C := by omega
          have HZ := Lib.hid hZ
          have HPART : Hid (Cells wr (some ⟨ga, goff + Z * 6, none⟩) C (rowOf C q xs)) := by
            have h := cells_part (HL.out.below HR.out.2.2.1) (s := Z) (m := C) hZn
            unfold rowOf
            rw [hZ]
            exact h
          obtain ⟨rb, hrb⟩ : ∃ rb, rowMay (rowOf C q xs) = rb := ⟨_, rfl⟩
          have HRB := Lib.hid hrb
          have HRL : Hid ((rowOf C q xs).length = C) := row_len HN.out hq
          clear hZ hmr hrb
          have g0 := Own.cell HR.out.2.1 0
          have g1 := Own.cell HR.out.2.1 1
          have g2 := Own.cell HR.out.2.1 2
          simp only [List.getElem?_toArray, List.getElem?_cons_zero, List.getElem?_cons_succ] at g0 g1 g2
          go_wp2_with fail
          refine (gcopy_any _ C _ _ wr HPART.out (by omega)).mono ?_
          rintro e w3 ⟨v3, rfl, r3, b3⟩
          obtain ⟨ra, rc, rfl, _⟩ := r3.cells
          rw [HRL.out] at r3 ⊢
          have HX : Hid (RwRel w C R C (some ⟨ga, goff, none⟩) xs.length cp xs q (.slice oa q oc) w3) := ⟨HR.out.1.below b3, HR.out.2.1.below b3 HR.out.2.1.lt, HR.out.2.2.1.trans (b3.mono HR.out.2.2.1.size), HR.out.2.2.2⟩
          have HRW : Hid (CRow w3 0 (.slice ra C rc) (rowOf C q xs)) := r3.up (Nat.zero_le _)
          clear r3 b3 HR g0 g1 g2 HPART
          go_wp2_with fail
          refine (RVal.as (ref_row_any ra C rc _ w3 (cells_of HRW.out)) (congrArg Value.bool HRB.out)).mono ?_
          rintro e w4 ⟨rfl, b4⟩
          have HX4 : Hid (RwRel w C R C (some ⟨ga, goff, none⟩) xs.length cp xs q (.slice oa q oc) w4) := ⟨HX.out.1.below b4, HX.out.2.1.below b4 HX.out.2.1.lt, HX.out.2.2.1.trans (b4.mono HX.out.2.2.1.size), HX.out.2.2.2⟩
          have HRW4 := Lib.hid (HRW.out.below b4)
          clear b4 HX HRW
          cases rb with
          | false =>
            have HZ2 : Hid (gridMay C R xs = false) := gmay_no (fun ⟨C', R', e1, e2, h⟩ => by
              obtain rfl : C' = C := by omega
              obtain rfl : R' = R := by omega
              have := row_yes (h.2.2.2.2.2 q HQ.out)
              rw [HRB.out] at this
              cases this)
            have B9 := Lib.hid HX4.out.2.2.1
            go_wp2_with fail
            go_ret2
            unfold RowsPost
            rw [if_neg (by rw [HZ2.out]; decide)]
            exact ⟨rfl, B9.out⟩
          | true =>
            have hnew := Own.new w4 29 #[.slice ra C rc]
            have hq24 : q ≤ 24 := by omega
            go_wp2_with (first
              | (at_builtin; refine rapp rfl _ _ rfl rfl (HX4.out.1.below ((Below.refl _ _).alloc (Nat.le_refl _) _)) rfl (Own.cell hnew 0) (HRW4.out.alloc _) (by rw [rowsL_len]; omega) (by have := HX4.out.2.2.1.size; simp; omega) ?_; intro v5 w5 r5 k5 b5; have HY : Hid (RwRel w C R C (some ⟨ga, goff, none⟩) xs.length cp xs (q + 1) v5 w5) := ⟨by rw [← rowsL_next]; exact r5, (HX4.out.2.1.alloc _).grown k5 (rw_ne HX4.out.1 HX4.out.2.1), (HX4.out.2.2.1.alloc HX4.out.2.2.1.size _).trans b5, rows_step HX4.out.2.2.2 (row_iff.1 HRB.out)⟩; clear r5 k5 b5)
              | go_in)
            go_roundw
            case rel => exact ⟨q + 1, HQ.out, by go_num, HY⟩
            case measure => have := HQ.out; simp [intOf]; omega
        · obtain rfl : q = R := by omega
          have hdq : decide (q < q) = false := decide_eq_false hq
          have HZ : Hid (gridMay C q xs = true) := gmay_iff.2 ⟨C, q, rfl, rfl, by omega, by omega, by omega, by omega, HN.out, HR.out.2.2.2⟩
          have R9 := Lib.hid HR.out.1
          have B9 := Lib.hid HR.out.2.2.1
          have g0 := Own.cell HR.out.2.1 0
          have g1 := Own.cell HR.out.2.1 1
          have g2 := Own.cell HR.out.2.1 2
          simp only [List.getElem?_toArray, List.getElem?_cons_zero, List.getElem?_cons_succ] at g0 g1 g2
          clear hq HR
          go_wp2_with fail
          go_ret2
          unfold RowsPost
          rw [if_pos HZ.out, Int.toNat_natCast, Int.toNat_natCast]
          exact ⟨_, rfl, R9.out, B9.out⟩
end Go.Proofs.YtlhcehealjdbdaaDoor
