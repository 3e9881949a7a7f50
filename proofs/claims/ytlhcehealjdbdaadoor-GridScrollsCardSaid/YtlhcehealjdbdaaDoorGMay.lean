/- Which grids may be: the program's walk. -/
import Derived.Test.YtlhcehealjdbdaaDoorGBase
import Derived.Deep.DeepCutAuto
namespace Go.Proofs.YtlhcehealjdbdaaDoor
open Go.RowKit
set_option linter.unusedSimpArgs false
set_option linter.unusedVariables false
attribute [local go_sem] alloc_drewN setCell_drewN


def YRel (C : Nat) (xs : List Glyph) (w : World) (q : Nat) (wr : World) : Prop := (∀ y, y < q → RowOk (rowOf C y xs)) ∧ Below w.heap.size w wr
set_option maxRecDepth 10000 in
set_option maxHeartbeats 2000000 in
theorem gmay_any (c r : Int) (a : Option Addr) (n cp : Nat) (xs : List Glyph) (w : World) (hl : Cells w a n xs) (hcp : n ≤ cp) (ht : Tabs w) : Calls Tryd.prog 40 #[.agg #[.int .i64 c, .int .i64 r, .slice a n cp]] w (RVal (.bool (gridMay c r xs)) w) := by
  obtain rfl := hl.1
  have HL := Lib.hid hl
  have HT := Lib.hid ht
  have hn63 := hl.2.1
  clear hl ht
  obtain ⟨fb, hfb⟩ : ∃ fb, fitsB c r = fb := ⟨_, rfl⟩
  have HFB := Lib.hid hfb
  have B0 : Hid (Below w.heap.size w (w.alloc (.cells #[.int .i64 c, .int .i64 r, .slice a xs.length cp] 49))) := (Below.refl _ _).alloc (Nat.le_refl _) _
  have O0 : Hid (Own (w.alloc (.cells #[.int .i64 c, .int .i64 r, .slice a xs.length cp] 49)) w.heap.size 49 #[.int .i64 c, .int .i64 r, .slice a xs.length cp]) := Own.new w 49 _
  have hz0 : w.heap.size < (w.alloc (.cells #[.int .i64 c, .int .i64 r, .slice a xs.length cp] 49)).heap.size := by simp
  cases fb with
  | false =>
    clear hfb
    have HZ : Hid (gridMay c r xs = false) := by unfold gridMay; rw [HFB.out, Bool.false_and]; rfl
    go_enter Tryd.func40, Tryd.ntmps40
    have g0 := Own.cell O0.out 0
    have g1 := Own.cell O0.out 1
    have g2 := Own.cell O0.out 2
    simp only [List.getElem?_toArray, List.getElem?_cons_zero, List.getElem?_cons_succ] at g0 g1 g2
    go_wp2_with fail
    refine (fits_any c r _).mono ?_
    rw [HFB.out]
    rintro e w' ⟨rfl, rfl⟩
    go_wp2_with fail
    go_ret
    exact ⟨by rw [HZ.out]; rfl, B0.out⟩
  | true =>
    obtain ⟨a1, a2, a3, a4⟩ := fits_iff.1 hfb
    clear hfb
    obtain ⟨C, rfl⟩ : ∃ C : Nat, c = C := ⟨c.toNat, by omega⟩
    obtain ⟨R, rfl⟩ : ∃ R : Nat, r = R := ⟨r.toNat, by omega⟩
    have hb := mul_bound (c := C) (r := R) (by omega) (by omega)
    have hpos : 0 < C * R := Nat.mul_pos (by omega) (by omega)
    obtain ⟨P, hP⟩ : ∃ P, C * R = P := ⟨_, rfl⟩
    have k1 : (C : Int) * (R : Int) = (P : Int) := by rw [← hP]; exact (Int.natCast_mul C R).symm
    have HP := Lib.hid hP
    rw [hP] at hb hpos
    clear hP
    by_cases hn : xs.length = P
    · have hne : (xs.length != P) = false := bne_eq_false_iff_eq.2 hn
      have hne2 : ((xs.length : Int) != (P : Int)) = false := bne_eq_false_iff_eq.2 (by omega)
      have HN := Lib.hid hn
      clear hn
      obtain ⟨g, off, rfl, hg, _⟩ := HL.out.2.2 (by have := HN.out; omega)
      go_enter Tryd.func40, Tryd.ntmps40
      have g0 := Own.cell O0.out 0
      have g1 := Own.cell O0.out 1
      have g2 := Own.cell O0.out 2
      simp only [List.getElem?_toArray, List.getElem?_cons_zero, List.getElem?_cons_succ] at g0 g1 g2
      go_wp2_with fail
      refine (fits_any C R _).mono ?_
      rw [HFB.out]
      rintro e w' ⟨rfl, rfl⟩
      generalize w.alloc (.cells #[.int .i64 C, .int .i64 R, .slice (some ⟨g, off, none⟩) xs.length cp] 49) = w0 at B0 O0 hz0 g0 g1 g2 ⊢
      go_wp2_with fail
      clear g0 g1 g2 k1 hne hne2
      go_loopw [23] (fun v wr => ∃ q : Nat, q ≤ R ∧ v = .int .i64 q ∧ Hid (YRel C xs w q wr ∧ Below w0.heap.size w0 wr)) (fun v _ => R - (intOf v).toNat)
      case atStart => exact ⟨0, by omega, rfl, ⟨fun y hy => absurd hy (by omega), B0.out⟩, Below.refl _ _⟩
      case round =>
        obtain ⟨q, hq1, rfl, HR⟩ := hrel
        by_cases hq : q < R
        · have hdq : decide (q < R) = true := decide_eq_true hq
          have HQ : Hid (q < R) := hq
          have O1 := Lib.hid (O0.out.below HR.out.2 hz0)
          have B1 : Hid (Below w.heap.size w wr) := HR.out.1.2
          have hnn : xs.length = C * R := by rw [HN.out, HP.out]
          have hmr := mul_row (c := C) hq
          have hrl := row_len hnn hq
          obtain ⟨rb, hrb⟩ : ∃ rb, rowMay (rowOf C q xs) = rb := ⟨_, rfl⟩
          have HRB := Lib.hid hrb
          have HGC := Lib.hid (grow_any C q R g off xs.length cp R wr (by omega) (by omega) hq (by omega) hnn hcp)
          have HPART : Hid (Cells wr (some ⟨g, off + q * C * 6, none⟩) C (rowOf C q xs)) := cells_part (HL.out.below B1.out) (s := q * C) (m := C) (by omega)
          have g0 := Own.cell O1.out 0
          have g1 := Own.cell O1.out 1
          have g2 := Own.cell O1.out 2
          simp only [List.getElem?_toArray, List.getElem?_cons_zero, List.getElem?_cons_succ] at g0 g1 g2
          clear hnn hmr hrl hrb
          go_wp2_with fail
          refine HGC.out.mono ?_
          rintro e w1 ⟨rfl, b1⟩
          have B2 : Hid (Below w.heap.size w w1) := B1.out.trans (b1.mono B1.out.size)
          have D2 : Hid (Below w0.heap.size w0 w1) := HR.out.2.trans (b1.mono HR.out.2.size)
          have HP2 := Lib.hid (HPART.out.below b1)
          clear b1 g0 g1 g2
          go_wp2_with fail
          refine (RVal.as (row_any _ C C _ _ HP2.out (HT.out.below B2.out)) (congrArg Value.bool HRB.out)).mono ?_
          rintro e w2 ⟨rfl, b2⟩
          have B3 : Hid (Below w.heap.size w w2) := B2.out.trans (b2.mono B2.out.size)
          have D3 : Hid (Below w0.heap.size w0 w2) := D2.out.trans (b2.mono D2.out.size)
          clear b2
          cases rb with
          | false =>
            have HZ : Hid (gridMay C R xs = false) := gmay_no (fun ⟨C', R', e1, e2, h⟩ => by
              obtain rfl : C' = C := by omega
              obtain rfl : R' = R := by omega
              have := row_yes (h.2.2.2.2.2 q HQ.out)
              rw [HRB.out] at this
              cases this)
            go_wp2_with fail
            go_ret
            exact ⟨by rw [HZ.out]; rfl, B3.out⟩
          | true =>
            have HY : Hid (YRel C xs w (q + 1) w2 ∧ Below w0.heap.size w0 w2) := ⟨⟨fun y hy => by
              rcases Nat.lt_or_ge y q with k | k
              · exact HR.out.1.1 y k
              · obtain rfl : y = q := by omega
                exact row_iff.1 HRB.out, B3.out⟩, D3.out⟩
            go_wp2_with fail
            go_roundw
            case rel => exact ⟨q + 1, HQ.out, by go_num, HY⟩
            case measure => have := HQ.out; simp [intOf]; omega
        · obtain rfl : q = R := by omega
          have HZ : Hid (gridMay C q xs = true) := gmay_iff.2 ⟨C, q, rfl, rfl, by omega, by omega, by omega, by omega, by rw [HN.out, HP.out], HR.out.1.1⟩
          have hdq : decide (q < q) = false := decide_eq_false hq
          clear hq
          go_wp2_with fail
          go_ret
          exact ⟨by rw [HZ.out]; rfl, HR.out.1.2⟩
    · have hne : (xs.length != P) = true := bne_iff_ne.2 hn
      have hne2 : ((xs.length : Int) != (P : Int)) = true := bne_iff_ne.2 (by omega)
      have HZ : Hid (gridMay C R xs = false) := gmay_no (fun ⟨C', R', e1, e2, h⟩ => by
        obtain rfl : C' = C := by omega
        obtain rfl : R' = R := by omega
        exact hn (h.2.2.2.2.1.trans HP.out))
      clear hn
      go_enter Tryd.func40, Tryd.ntmps40
      have g0 := Own.cell O0.out 0
      have g1 := Own.cell O0.out 1
      have g2 := Own.cell O0.out 2
      simp only [List.getElem?_toArray, List.getElem?_cons_zero, List.getElem?_cons_succ] at g0 g1 g2
      go_wp2_with fail
      refine (fits_any C R _).mono ?_
      rw [HFB.out]
      rintro e w' ⟨rfl, rfl⟩
      go_wp2_with fail
      go_ret
      exact ⟨by rw [HZ.out]; rfl, B0.out⟩
end Go.Proofs.YtlhcehealjdbdaaDoor
