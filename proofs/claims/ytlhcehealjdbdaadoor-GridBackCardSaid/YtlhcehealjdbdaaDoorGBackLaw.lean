/- A grid made larger and smaller again is the same: the law's walk. -/
import Derived.Test.YtlhcehealjdbdaaDoorGBackPlain
import Derived.Test.YtlhcehealjdbdaaDoorGRefRows
import Derived.Test.YtlhcehealjdbdaaDoorGFixed
import Derived.Test.YtlhcehealjdbdaaDoorGSameG
import Derived.Deep.DeepCutAuto
namespace Go.Proofs.YtlhcehealjdbdaaDoor
open Go.RowKit
set_option linter.unusedSimpArgs false
set_option linter.unusedVariables false
attribute [local go_sem] alloc_drewN setCell_drewN


set_option maxRecDepth 10000 in
set_option maxHeartbeats 4000000 in
theorem gridback_walk (c r x y : Int) (a : Option Addr) (n cp : Nat) (xs : List Glyph) (w : World) (hl : Cells w a n xs) (hcp : n ≤ cp) (ht : Tabs w) :
    Calls Tryd.prog 10 #[.agg #[.int .i64 c, .int .i64 r, .slice a n cp], .int .i64 x, .int .i64 y] w (RVal (.bool true) w) := by
  obtain rfl := hl.1
  have HL := Lib.hid hl
  have HT := Lib.hid ht
  clear hl ht
  have B0 : Hid (Below w.heap.size w (w.alloc (.cells #[.int .i64 c, .int .i64 r, .slice a xs.length cp] 49))) := (Below.refl _ _).alloc (Nat.le_refl _) _
  have G0 : Hid (Own (w.alloc (.cells #[.int .i64 c, .int .i64 r, .slice a xs.length cp] 49)) w.heap.size 49 #[.int .i64 c, .int .i64 r, .slice a xs.length cp]) := Own.new w 49 _
  have hz0 : w.heap.size + 1 ≤ (w.alloc (.cells #[.int .i64 c, .int .i64 r, .slice a xs.length cp] 49)).heap.size := by simp
  have g0 := Own.cell G0.out 0
  have g1 := Own.cell G0.out 1
  have g2 := Own.cell G0.out 2
  simp only [List.getElem?_toArray, List.getElem?_cons_zero, List.getElem?_cons_succ] at g0 g1 g2
  go_enter Tryd.func10, Tryd.ntmps10
  go_wp2_with fail
  generalize w.alloc (.cells #[.int .i64 c, .int .i64 r, .slice a xs.length cp] 49) = w0 at B0 G0 hz0 g0 g1 g2 ⊢
  refine (ref_rows_any c r a xs.length cp xs w0 (HL.out.below B0.out) hcp).mono ?_
  intro e w1 hp
  unfold RowsPost at hp
  obtain ⟨mb, hmb⟩ : ∃ mb, gridMay c r xs = mb := ⟨_, rfl⟩
  cases mb with
  | false =>
    rw [if_neg (by rw [hmb]; decide)] at hp
    obtain ⟨rfl, b1⟩ := hp
    have B1 : Hid (Below w.heap.size w w1) := B0.out.trans (b1.mono B0.out.size)
    have G1 := Lib.hid (G0.out.below b1 (by omega))
    have hz1 : w.heap.size + 1 ≤ w1.heap.size := Nat.le_trans hz0 b1.size
    clear b1 g0 g1 g2 hmb
    have g0 := Own.cell G1.out 0
    have g1 := Own.cell G1.out 1
    have g2 := Own.cell G1.out 2
    simp only [List.getElem?_toArray, List.getElem?_cons_zero, List.getElem?_cons_succ] at g0 g1 g2
    cases h4 : decide ((4000 : Int) < xs.length) with
    | true =>
      go_wp2_with fail
      refine (gfixed_any _ (HT.out.below B1.out)).mono ?_
      rintro e w2 ⟨rfl, b2⟩
      have B2 : Hid (Below w.heap.size w w2) := B1.out.trans (b2.mono B1.out.size)
      clear b2
      go_wp2_with fail
      go_ret
      exact ⟨rfl, B2.out⟩
    | false =>
      go_wp2_with fail
      refine (gfixed_any _ (HT.out.below B1.out)).mono ?_
      rintro e w2 ⟨rfl, b2⟩
      have B2 : Hid (Below w.heap.size w w2) := B1.out.trans (b2.mono B1.out.size)
      clear b2
      go_wp2_with fail
      go_ret
      exact ⟨rfl, B2.out⟩
  | true =>
    rw [if_pos hmb] at hp
    obtain ⟨v1, rfl, r1, b1⟩ := hp
    have B1 : Hid (Below w.heap.size w w1) := B0.out.trans (b1.mono B0.out.size)
    have G1 := Lib.hid (G0.out.below b1 (by omega))
    have hz1 : w.heap.size + 1 ≤ w1.heap.size := Nat.le_trans hz0 b1.size
    obtain ⟨C, R, rfl, rfl, hgo⟩ := gmay_iff.1 hmb
    have HGO := Lib.hid hgo
    obtain ⟨o1, o2, o3, o4, o5, o6⟩ := hgo
    have hbnd := mul_bound o2 o4
    rw [← o5] at hbnd
    have h4 : decide ((4000 : Int) < xs.length) = false := decide_eq_false (by omega)
    clear b1 r1 hmb g0 g1 g2 o5 o6
    have g0 := Own.cell G1.out 0
    have g1 := Own.cell G1.out 1
    have g2 := Own.cell G1.out 2
    simp only [List.getElem?_toArray, List.getElem?_cons_zero, List.getElem?_cons_succ] at g0 g1 g2
    cases hk0 : decide (x < (C : Int)) with
    | true =>
      go_wp2_with fail
      refine (gfixed_any _ (HT.out.below B1.out)).mono ?_
      rintro e w2 ⟨rfl, b2⟩
      have B2 : Hid (Below w.heap.size w w2) := B1.out.trans (b2.mono B1.out.size)
      clear b2
      go_wp2_with fail
      go_ret
      exact ⟨rfl, B2.out⟩
    | false =>
    cases hk1 : decide (y < (R : Int)) with
    | true =>
      go_wp2_with fail
      refine (gfixed_any _ (HT.out.below B1.out)).mono ?_
      rintro e w2 ⟨rfl, b2⟩
      have B2 : Hid (Below w.heap.size w w2) := B1.out.trans (b2.mono B1.out.size)
      clear b2
      go_wp2_with fail
      go_ret
      exact ⟨rfl, B2.out⟩
    | false =>
    cases hk2 : decide (80 < x) with
    | true =>
      go_wp2_with fail
      refine (gfixed_any _ (HT.out.below B1.out)).mono ?_
      rintro e w2 ⟨rfl, b2⟩
      have B2 : Hid (Below w.heap.size w w2) := B1.out.trans (b2.mono B1.out.size)
      clear b2
      go_wp2_with fail
      go_ret
      exact ⟨rfl, B2.out⟩
    | false =>
    cases hk3 : decide (24 < y) with
    | true =>
      go_wp2_with fail
      refine (gfixed_any _ (HT.out.below B1.out)).mono ?_
      rintro e w2 ⟨rfl, b2⟩
      have B2 : Hid (Below w.heap.size w w2) := B1.out.trans (b2.mono B1.out.size)
      clear b2
      go_wp2_with fail
      go_ret
      exact ⟨rfl, B2.out⟩
    | false =>
      go_wp2_with fail
      have q0 := of_decide_eq_false hk0
      have q1 := of_decide_eq_false hk1
      have q2 := of_decide_eq_false hk2
      have q3 := of_decide_eq_false hk3
      clear hk0 hk1 hk2 hk3 h4
      obtain ⟨C2, rfl⟩ : ∃ C2 : Nat, x = C2 := ⟨x.toNat, by omega⟩
      obtain ⟨R2, rfl⟩ : ∃ R2 : Nat, y = R2 := ⟨y.toNat, by omega⟩
      obtain ⟨M, hM1, hM2, hM3, hM4, hM5⟩ := back_ok HGO.out (show C ≤ C2 by omega) (show R ≤ R2 by omega) (by omega) (by omega)
      have HM2 : Hid (gridMay C2 R2 M = true) := gmay_iff.2 ⟨C2, R2, rfl, rfl, hM3⟩
      have hMpos : 0 < M.length := by rw [hM3.2.2.2.2.1]; exact Nat.mul_pos (by omega) (by omega)
      have HRA := gresize_any C R C2 R2 a xs.length cp xs w1 (HL.out.below B1.out) hcp (HT.out.below B1.out)
      rw [hM1, hM1, hM2] at HRA
      have HRB : Hid (∀ (ma : Option Addr) (mc : Nat) (wz : World), Cells wz ma M.length M → M.length ≤ mc → Tabs wz → Calls Tryd.prog 39 #[.agg #[.int .i64 C2, .int .i64 R2, .slice ma M.length mc], .int .i64 C, .int .i64 R] wz (GG C R xs wz)) := fun ma mc wz h1 h2 h3 => by
        have k := gresize_any C2 R2 C R ma M.length mc M wz h1 h2 h3
        rw [hM4, hM4, hM5] at k
        exact k
      clear hM1 hM2 hM3 hM4 hM5
      refine HRA.mono ?_
      clear HRA
      rintro e w4 ⟨v4, rfl, r4, b4⟩
      obtain ⟨ma, mc, rfl, ml⟩ := r4.cells
      have B4 : Hid (Below w.heap.size w w4) := B1.out.trans (b4.mono B1.out.size)
      have G4 := Lib.hid (G1.out.below b4 (by omega))
      have hz4 : w.heap.size + 1 ≤ w4.heap.size := Nat.le_trans hz1 b4.size
      have MC4 := Lib.hid ml
      have hmc : M.length ≤ mc := crow_cap r4 hMpos
      have HRB := Lib.hid (fun wz h1 => HRB.out ma mc wz h1 hmc)
      clear b4 r4 ml g0 g1 g2 G1 B1
      go_upto_region 5 with fail
      have HB8 : Hid (Own (w4.alloc (.cells #[.int .i64 C2, .int .i64 R2, .slice ma M.length mc] 49)) w4.heap.size 49 #[.int .i64 C2, .int .i64 R2, .slice ma M.length mc]) := Own.new w4 49 _
      have B7 : Hid (Below w.heap.size w (w4.alloc (.cells #[.int .i64 C2, .int .i64 R2, .slice ma M.length mc] 49))) := B4.out.alloc B4.out.size _
      have G7 := Lib.hid (G4.out.alloc (.cells #[.int .i64 C2, .int .i64 R2, .slice ma M.length mc] 49))
      have MC7 := Lib.hid (MC4.out.alloc (.cells #[.int .i64 C2, .int .i64 R2, .slice ma M.length mc] 49))
      have hz7 : w.heap.size + 1 ≤ (w4.alloc (.cells #[.int .i64 C2, .int .i64 R2, .slice ma M.length mc] 49)).heap.size := by simp; omega
      generalize w4.alloc (.cells #[.int .i64 C2, .int .i64 R2, .slice ma M.length mc] 49) = w7 at HB8 B7 G7 MC7 hz7 ⊢
      generalize w4.heap.size = hb at HB8 ⊢
      have B8 : Hid (Below w.heap.size w w7.drew) := below_drewN B7.out 1
      have S8 : Hid ((w7.drew.cell? ⟨w.heap.size, 0, none⟩ = some (.int .i64 C) ∧ w7.drew.cell? ⟨w.heap.size, 1, none⟩ = some (.int .i64 R) ∧ w7.drew.cell? ⟨w.heap.size, 2, none⟩ = some (.slice a xs.length cp)) ∧ (w7.drew.cell? ⟨hb, 0, none⟩ = some (.int .i64 C2) ∧ w7.drew.cell? ⟨hb, 1, none⟩ = some (.int .i64 R2) ∧ w7.drew.cell? ⟨hb, 2, none⟩ = some (.slice ma M.length mc))) := ⟨⟨Own.cell G7.out 0, Own.cell G7.out 1, Own.cell G7.out 2⟩, ⟨Own.cell HB8.out 0, Own.cell HB8.out 1, Own.cell HB8.out 2⟩⟩
      have MC8 : Hid (Cells w7.drew ma M.length M) := MC7.out
      have h18 : w.heap.size < w7.drew.heap.size := by have h : w7.drew.heap.size = w7.heap.size := rfl; omega
      have h28 : hb < w7.drew.heap.size := HB8.out.lt
      clear B7 G7 MC7 HB8
      go_upto_region 5 with fail
      go_cut [6] (fun v wc => v = .bool true ∧ Hid (Below w.heap.size w wc))
      case first =>
        refine wp_region_bits_at (S := fun w' => (w'.cell? ⟨w.heap.size, 0, none⟩ = some (.int .i64 C) ∧ w'.cell? ⟨w.heap.size, 1, none⟩ = some (.int .i64 R) ∧ w'.cell? ⟨w.heap.size, 2, none⟩ = some (.slice a xs.length cp)) ∧ (w'.cell? ⟨hb, 0, none⟩ = some (.int .i64 C2) ∧ w'.cell? ⟨hb, 1, none⟩ = some (.int .i64 R2) ∧ w'.cell? ⟨hb, 2, none⟩ = some (.slice ma M.length mc))) [(0, false), (1, true), (2, true), (3, false), (4, true), (5, true), (6, true), (7, true), (8, true), (9, true), (10, true), (11, true), (12, true), (13, true), (14, true), (15, true), (16, true), (17, true), (18, true), (19, true), (20, true), (21, true), (22, true), (24, true), (23, false), (25, false), (26, true), (27, true)] [] (by kernel_rfl) (by kernel_rfl) (fun c a d v w h => by cases d <;> exact h) S8.out ?_
        simp only [bits_, bitOf, List.getElem?_cons_zero, List.getElem?_cons_succ, List.contains_nil]
        repeat (first | (refine bits_take (v := ?_) (by rfl) ?_ ?_; rotate_left; (· intro w' hS; obtain ⟨⟨s0, s1, s2⟩, s3, s4, s5⟩ := hS; go_simp; (try (go_ints; try go_simp)); with_reducible rfl); (try simp only [Act.put, List.setIfInBounds_toArray, List.set_cons_zero, List.set_cons_succ])) | (refine bits_skip (by rfl) ?_; (try simp only [Act.put, List.setIfInBounds_toArray, List.set_cons_zero, List.set_cons_succ])))
        refine bits_eff (by rfl) (fun K hK => ?_)
        go_simp
        (try go_ints)
        refine (gfixed_any _ (HT.out.below B8.out)).mono ?_
        rintro e w9 ⟨rfl, b9⟩
        have h19 : w.heap.size < w9.heap.size := Nat.lt_of_lt_of_le h18 b9.size
        have h29 : hb < w9.heap.size := Nat.lt_of_lt_of_le h28 b9.size
        have B9 : Hid (Below w.heap.size w w9) := B8.out.trans (b9.mono B8.out.size)
        have MC9 := Lib.hid (MC8.out.below b9)
        have S9 : Hid ((w9.cell? ⟨w.heap.size, 0, none⟩ = some (.int .i64 C) ∧ w9.cell? ⟨w.heap.size, 1, none⟩ = some (.int .i64 R) ∧ w9.cell? ⟨w.heap.size, 2, none⟩ = some (.slice a xs.length cp)) ∧ (w9.cell? ⟨hb, 0, none⟩ = some (.int .i64 C2) ∧ w9.cell? ⟨hb, 1, none⟩ = some (.int .i64 R2) ∧ w9.cell? ⟨hb, 2, none⟩ = some (.slice ma M.length mc))) := ⟨⟨(b9.cell (p := ⟨w.heap.size, 0, none⟩) h18).trans S8.out.1.1, (b9.cell (p := ⟨w.heap.size, 1, none⟩) h18).trans S8.out.1.2.1, (b9.cell (p := ⟨w.heap.size, 2, none⟩) h18).trans S8.out.1.2.2⟩, ⟨(b9.cell (p := ⟨hb, 0, none⟩) h28).trans S8.out.2.1, (b9.cell (p := ⟨hb, 1, none⟩) h28).trans S8.out.2.2.1, (b9.cell (p := ⟨hb, 2, none⟩) h28).trans S8.out.2.2.2⟩⟩
        clear b9
        refine hK _ _ ?_ ?_
        · exact S9.out
        clear hK K
        (try simp only [Act.put, List.setIfInBounds_toArray, List.set_cons_zero, List.set_cons_succ])
        repeat (first | (refine bits_take (v := ?_) (by rfl) ?_ ?_; rotate_left; (· intro w' hS; obtain ⟨⟨s0, s1, s2⟩, s3, s4, s5⟩ := hS; go_simp; (try (go_ints; try go_simp)); with_reducible rfl); (try simp only [Act.put, List.setIfInBounds_toArray, List.set_cons_zero, List.set_cons_succ])) | (refine bits_skip (by rfl) ?_; (try simp only [Act.put, List.setIfInBounds_toArray, List.set_cons_zero, List.set_cons_succ])))
        refine bits_eff (by rfl) (fun K hK => ?_)
        go_simp
        (try go_ints)
        refine (RVal.as (gmay_any C2 R2 ma M.length mc M _ MC9.out hmc (HT.out.below B9.out)) (congrArg Value.bool HM2.out)).mono ?_
        rintro e w10 ⟨rfl, b10⟩
        have h110 : w.heap.size < w10.heap.size := Nat.lt_of_lt_of_le h19 b10.size
        have h210 : hb < w10.heap.size := Nat.lt_of_lt_of_le h29 b10.size
        have B10 : Hid (Below w.heap.size w w10) := B9.out.trans (b10.mono B9.out.size)
        have MC10 := Lib.hid (MC9.out.below b10)
        have S10 : Hid ((w10.cell? ⟨w.heap.size, 0, none⟩ = some (.int .i64 C) ∧ w10.cell? ⟨w.heap.size, 1, none⟩ = some (.int .i64 R) ∧ w10.cell? ⟨w.heap.size, 2, none⟩ = some (.slice a xs.length cp)) ∧ (w10.cell? ⟨hb, 0, none⟩ = some (.int .i64 C2) ∧ w10.cell? ⟨hb, 1, none⟩ = some (.int .i64 R2) ∧ w10.cell? ⟨hb, 2, none⟩ = some (.slice ma M.length mc))) := ⟨⟨(b10.cell (p := ⟨w.heap.size, 0, none⟩) h19).trans S9.out.1.1, (b10.cell (p := ⟨w.heap.size, 1, none⟩) h19).trans S9.out.1.2.1, (b10.cell (p := ⟨w.heap.size, 2, none⟩) h19).trans S9.out.1.2.2⟩, ⟨(b10.cell (p := ⟨hb, 0, none⟩) h29).trans S9.out.2.1, (b10.cell (p := ⟨hb, 1, none⟩) h29).trans S9.out.2.2.1, (b10.cell (p := ⟨hb, 2, none⟩) h29).trans S9.out.2.2.2⟩⟩
        clear b10
        refine hK _ _ ?_ ?_
        · exact S10.out
        clear hK K
        (try simp only [Act.put, List.setIfInBounds_toArray, List.set_cons_zero, List.set_cons_succ])
        repeat (first | (refine bits_take (v := ?_) (by rfl) ?_ ?_; rotate_left; (· intro w' hS; obtain ⟨⟨s0, s1, s2⟩, s3, s4, s5⟩ := hS; go_simp; (try (go_ints; try go_simp)); with_reducible rfl); (try simp only [Act.put, List.setIfInBounds_toArray, List.set_cons_zero, List.set_cons_succ])) | (refine bits_skip (by rfl) ?_; (try simp only [Act.put, List.setIfInBounds_toArray, List.set_cons_zero, List.set_cons_succ])))
        refine bits_eff (by rfl) (fun K hK => ?_)
        go_simp
        (try go_ints)
        refine (HRB.out _ MC10.out (HT.out.below B10.out)).mono ?_
        rintro e w11 ⟨v11, rfl, r11, b11⟩
        obtain ⟨za, zc, rfl, zl⟩ := r11.cells
        have ZC11 := Lib.hid zl
        have h111 : w.heap.size < w11.heap.size := Nat.lt_of_lt_of_le h110 b11.size
        have h211 : hb < w11.heap.size := Nat.lt_of_lt_of_le h210 b11.size
        have B11 : Hid (Below w.heap.size w w11) := B10.out.trans (b11.mono B10.out.size)
        have MC11 := Lib.hid (MC10.out.below b11)
        have S11 : Hid ((w11.cell? ⟨w.heap.size, 0, none⟩ = some (.int .i64 C) ∧ w11.cell? ⟨w.heap.size, 1, none⟩ = some (.int .i64 R) ∧ w11.cell? ⟨w.heap.size, 2, none⟩ = some (.slice a xs.length cp)) ∧ (w11.cell? ⟨hb, 0, none⟩ = some (.int .i64 C2) ∧ w11.cell? ⟨hb, 1, none⟩ = some (.int .i64 R2) ∧ w11.cell? ⟨hb, 2, none⟩ = some (.slice ma M.length mc))) := ⟨⟨(b11.cell (p := ⟨w.heap.size, 0, none⟩) h110).trans S10.out.1.1, (b11.cell (p := ⟨w.heap.size, 1, none⟩) h110).trans S10.out.1.2.1, (b11.cell (p := ⟨w.heap.size, 2, none⟩) h110).trans S10.out.1.2.2⟩, ⟨(b11.cell (p := ⟨hb, 0, none⟩) h210).trans S10.out.2.1, (b11.cell (p := ⟨hb, 1, none⟩) h210).trans S10.out.2.2.1, (b11.cell (p := ⟨hb, 2, none⟩) h210).trans S10.out.2.2.2⟩⟩
        clear b11 r11 zl
        refine hK _ _ ?_ ?_
        · exact S11.out
        clear hK K
        (try simp only [Act.put, List.setIfInBounds_toArray, List.set_cons_zero, List.set_cons_succ])
        repeat (first | (refine bits_take (v := ?_) (by rfl) ?_ ?_; rotate_left; (· intro w' hS; obtain ⟨⟨s0, s1, s2⟩, s3, s4, s5⟩ := hS; go_simp; (try (go_ints; try go_simp)); with_reducible rfl); (try simp only [Act.put, List.setIfInBounds_toArray, List.set_cons_zero, List.set_cons_succ])) | (refine bits_skip (by rfl) ?_; (try simp only [Act.put, List.setIfInBounds_toArray, List.set_cons_zero, List.set_cons_succ])))
        refine bits_eff (by rfl) (fun K hK => ?_)
        go_simp
        (try go_ints)
        refine (RVal.as (sameg_any C R C R za a xs.length zc xs.length cp xs xs _ ZC11.out (HL.out.below B11.out)) (congrArg Value.bool (sameG_self C R xs))).mono ?_
        rintro e w12 ⟨rfl, b12⟩
        have h112 : w.heap.size < w12.heap.size := Nat.lt_of_lt_of_le h111 b12.size
        have h212 : hb < w12.heap.size := Nat.lt_of_lt_of_le h211 b12.size
        have B12 : Hid (Below w.heap.size w w12) := B11.out.trans (b12.mono B11.out.size)
        have MC12 := Lib.hid (MC11.out.below b12)
        have S12 : Hid ((w12.cell? ⟨w.heap.size, 0, none⟩ = some (.int .i64 C) ∧ w12.cell? ⟨w.heap.size, 1, none⟩ = some (.int .i64 R) ∧ w12.cell? ⟨w.heap.size, 2, none⟩ = some (.slice a xs.length cp)) ∧ (w12.cell? ⟨hb, 0, none⟩ = some (.int .i64 C2) ∧ w12.cell? ⟨hb, 1, none⟩ = some (.int .i64 R2) ∧ w12.cell? ⟨hb, 2, none⟩ = some (.slice ma M.length mc))) := ⟨⟨(b12.cell (p := ⟨w.heap.size, 0, none⟩) h111).trans S11.out.1.1, (b12.cell (p := ⟨w.heap.size, 1, none⟩) h111).trans S11.out.1.2.1, (b12.cell (p := ⟨w.heap.size, 2, none⟩) h111).trans S11.out.1.2.2⟩, ⟨(b12.cell (p := ⟨hb, 0, none⟩) h211).trans S11.out.2.1, (b12.cell (p := ⟨hb, 1, none⟩) h211).trans S11.out.2.2.1, (b12.cell (p := ⟨hb, 2, none⟩) h211).trans S11.out.2.2.2⟩⟩
        clear b12
        refine hK _ _ ?_ ?_
        · exact S12.out
        clear hK K
        (try simp only [Act.put, List.setIfInBounds_toArray, List.set_cons_zero, List.set_cons_succ])
        repeat (first | (refine bits_take (v := ?_) (by rfl) ?_ ?_; rotate_left; (· intro w' hS; obtain ⟨⟨s0, s1, s2⟩, s3, s4, s5⟩ := hS; go_simp; (try (go_ints; try go_simp)); with_reducible rfl); (try simp only [Act.put, List.setIfInBounds_toArray, List.set_cons_zero, List.set_cons_succ])) | (refine bits_skip (by rfl) ?_; (try simp only [Act.put, List.setIfInBounds_toArray, List.set_cons_zero, List.set_cons_succ])))
        refine bits_nil ?_
        refine Met.intro ?_
        go_step
        go_meet
        exact ⟨rfl, B12⟩
      case rest =>
        obtain ⟨rfl, HBX⟩ := hcut
        go_wp2_with fail
        go_ret
        exact ⟨rfl, HBX.out⟩
end Go.Proofs.YtlhcehealjdbdaaDoor
