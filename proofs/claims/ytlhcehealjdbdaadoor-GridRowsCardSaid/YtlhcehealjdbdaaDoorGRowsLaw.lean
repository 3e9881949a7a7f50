/- Each row is told, and what isn't asked for in one stays in the others: the law's walk. -/
import Derived.Test.YtlhcehealjdbdaaDoorGRefRows
import Derived.Test.YtlhcehealjdbdaaDoorGDo
import Derived.Test.YtlhcehealjdbdaaDoorGFixed
import Derived.Deep.DeepCutAuto
namespace Go.Proofs.YtlhcehealjdbdaaDoor
open Go.RowKit
set_option linter.unusedSimpArgs false
set_option linter.unusedVariables false
attribute [local go_sem] alloc_drewN setCell_drewN


set_option maxRecDepth 10000 in
set_option maxHeartbeats 4000000 in
theorem gridrows_walk (c r z : Int) (o : Op9) (a : Option Addr) (n cp : Nat) (xs : List Glyph) (w : World) (hl : Cells w a n xs) (hcp : n ≤ cp) (ht : Tabs w) :
    Calls Tryd.prog 13 #[.agg #[.int .i64 c, .int .i64 r, .slice a n cp], .int .i64 z, .agg #[.int .i64 o.k, .int .i64 o.x, .int .i64 o.y, .int .i64 o.n, .int .i32 o.r, .int .u32 o.f, .int .u32 o.b, .int .u8 o.a, .int .u16 o.l]] w (RVal (.bool true) w) := by
  obtain rfl := hl.1
  have HL := Lib.hid hl
  have HT := Lib.hid ht
  clear hl ht
  obtain ⟨k, x, y, m, rr, f, b, d, l⟩ := o
  have B0 : Hid (Below w.heap.size w ((w.alloc (.cells #[.int .i64 c, .int .i64 r, .slice a xs.length cp] 49)).alloc (.cells #[.int .i64 k, .int .i64 x, .int .i64 y, .int .i64 m, .int .i32 rr, .int .u32 f, .int .u32 b, .int .u8 d, .int .u16 l] 68))) := ((Below.refl _ _).alloc (Nat.le_refl _) _).alloc (by simp) _
  have G0 : Hid (Own ((w.alloc (.cells #[.int .i64 c, .int .i64 r, .slice a xs.length cp] 49)).alloc (.cells #[.int .i64 k, .int .i64 x, .int .i64 y, .int .i64 m, .int .i32 rr, .int .u32 f, .int .u32 b, .int .u8 d, .int .u16 l] 68)) w.heap.size 49 #[.int .i64 c, .int .i64 r, .slice a xs.length cp]) := (Own.new w 49 _).alloc _
  have P0' : Own ((w.alloc (.cells #[.int .i64 c, .int .i64 r, .slice a xs.length cp] 49)).alloc (.cells #[.int .i64 k, .int .i64 x, .int .i64 y, .int .i64 m, .int .i32 rr, .int .u32 f, .int .u32 b, .int .u8 d, .int .u16 l] 68)) (w.heap.size + 1) 68 #[.int .i64 k, .int .i64 x, .int .i64 y, .int .i64 m, .int .i32 rr, .int .u32 f, .int .u32 b, .int .u8 d, .int .u16 l] := by
    have h := Own.new (w.alloc (.cells #[.int .i64 c, .int .i64 r, .slice a xs.length cp] 49)) 68 #[.int .i64 k, .int .i64 x, .int .i64 y, .int .i64 m, .int .i32 rr, .int .u32 f, .int .u32 b, .int .u8 d, .int .u16 l]
    simpa using h
  have P0 := Lib.hid P0'
  have hz0 : w.heap.size + 2 ≤ ((w.alloc (.cells #[.int .i64 c, .int .i64 r, .slice a xs.length cp] 49)).alloc (.cells #[.int .i64 k, .int .i64 x, .int .i64 y, .int .i64 m, .int .i32 rr, .int .u32 f, .int .u32 b, .int .u8 d, .int .u16 l] 68)).heap.size := by simp
  clear P0'
  have g0 := Own.cell G0.out 0
  have g1 := Own.cell G0.out 1
  have g2 := Own.cell G0.out 2
  simp only [List.getElem?_toArray, List.getElem?_cons_zero, List.getElem?_cons_succ] at g0 g1 g2
  go_enter Tryd.func13, Tryd.ntmps13
  go_wp2_with fail
  generalize (w.alloc (.cells #[.int .i64 c, .int .i64 r, .slice a xs.length cp] 49)).alloc (.cells #[.int .i64 k, .int .i64 x, .int .i64 y, .int .i64 m, .int .i32 rr, .int .u32 f, .int .u32 b, .int .u8 d, .int .u16 l] 68) = w0 at B0 G0 P0 hz0 g0 g1 g2 ⊢
  refine (ref_rows_any c r a xs.length cp xs w0 (HL.out.below B0.out) hcp).mono ?_
  intro e w1 hp
  unfold RowsPost at hp
  obtain ⟨mb, hmb⟩ : ∃ mb, gridMay c r xs = mb := ⟨_, rfl⟩
  cases mb with
  | false =>
    rw [if_neg (by rw [hmb]; decide)] at hp
    obtain ⟨rfl, b1⟩ := hp
    have B1 : Hid (Below w.heap.size w w1) := B0.out.trans (b1.mono B0.out.size)
    have G1 := Lib.hid (G0.out.below b1 (by omega))
    have P1 := Lib.hid (P0.out.below b1 (by omega))
    have hz1 : w.heap.size + 2 ≤ w1.heap.size := Nat.le_trans hz0 b1.size
    clear b1 g0 g1 g2 hmb
    have g0 := Own.cell G1.out 0
    have g1 := Own.cell G1.out 1
    have g2 := Own.cell G1.out 2
    simp only [List.getElem?_toArray, List.getElem?_cons_zero, List.getElem?_cons_succ] at g0 g1 g2
    cases h4 : decide ((4000 : Int) < xs.length) with
    | true =>
      go_wp2_with fail
      refine (gfixed_any _ (HT.out.below B1.out)).mono ?_
      rintro e w2 ⟨rfl, b2⟩
      have B2 : Hid (Below w.heap.size w w2) := B1.out.trans (b2.mono B1.out.size)
      clear b2
      go_wp2_with fail
      go_ret
      exact ⟨rfl, B2.out⟩
    | false =>
      go_wp2_with fail
      refine (gfixed_any _ (HT.out.below B1.out)).mono ?_
      rintro e w2 ⟨rfl, b2⟩
      have B2 : Hid (Below w.heap.size w w2) := B1.out.trans (b2.mono B1.out.size)
      clear b2
      go_wp2_with fail
      go_ret
      exact ⟨rfl, B2.out⟩
  | true =>
    rw [if_pos hmb] at hp
    obtain ⟨v1, rfl, r1, b1⟩ := hp
    have B1 : Hid (Below w.heap.size w w1) := B0.out.trans (b1.mono B0.out.size)
    have G1 := Lib.hid (G0.out.below b1 (by omega))
    have P1 := Lib.hid (P0.out.below b1 (by omega))
    have hz1 : w.heap.size + 2 ≤ w1.heap.size := Nat.le_trans hz0 b1.size
    obtain ⟨C, R, rfl, rfl, hgo⟩ := gmay_iff.1 hmb
    have HGO := Lib.hid hgo
    obtain ⟨o1, o2, o3, o4, o5, o6⟩ := hgo
    rw [Int.toNat_natCast, Int.toNat_natCast] at r1
    obtain ⟨la0, lc, rfl⟩ := rows_form r1
    rw [rowsL_len] at r1 ⊢
    obtain ⟨gl, rfl, _, _, hgl, _⟩ := rows_addr r1 (by omega)
    have L1 := Lib.hid r1
    have HMB := Lib.hid hmb
    have HO5 := Lib.hid o5
    have hbnd := mul_bound o2 o4
    rw [← o5] at hbnd
    have h4 : decide ((4000 : Int) < xs.length) = false := decide_eq_false (by omega)
    clear b1 r1 hmb g0 g1 g2 o5 o6
    have g0 := Own.cell G1.out 0
    have g1 := Own.cell G1.out 1
    have g2 := Own.cell G1.out 2
    simp only [List.getElem?_toArray, List.getElem?_cons_zero, List.getElem?_cons_succ] at g0 g1 g2
    have e0 := Own.cell P1.out 0
    have e1 := Own.cell P1.out 1
    have e2 := Own.cell P1.out 2
    have e3 := Own.cell P1.out 3
    have e4 := Own.cell P1.out 4
    have e5 := Own.cell P1.out 5
    have e6 := Own.cell P1.out 6
    have e7 := Own.cell P1.out 7
    have e8 := Own.cell P1.out 8
    simp only [List.getElem?_toArray, List.getElem?_cons_zero, List.getElem?_cons_succ] at e0 e1 e2 e3 e4 e5 e6 e7 e8
    cases hk0 : decide (k < 0) with
    | true =>
      go_wp2_with fail
      refine (gfixed_any _ (HT.out.below B1.out)).mono ?_
      rintro e w2 ⟨rfl, b2⟩
      have B2 : Hid (Below w.heap.size w w2) := B1.out.trans (b2.mono B1.out.size)
      clear b2
      go_wp2_with fail
      go_ret
      exact ⟨rfl, B2.out⟩
    | false =>
    cases hk2 : decide (2 < k) with
    | true =>
      go_wp2_with fail
      refine (gfixed_any _ (HT.out.below B1.out)).mono ?_
      rintro e w2 ⟨rfl, b2⟩
      have B2 : Hid (Below w.heap.size w w2) := B1.out.trans (b2.mono B1.out.size)
      clear b2
      go_wp2_with fail
      go_ret
      exact ⟨rfl, B2.out⟩
    | false =>
      have hkk : 0 ≤ k ∧ k ≤ 2 := ⟨by have := of_decide_eq_false hk0; omega, by have := of_decide_eq_false hk2; omega⟩
      obtain ⟨pb, hpb⟩ : ∃ pb, penMay f b = pb := ⟨_, rfl⟩
      have HPB := Lib.hid hpb
      clear hpb
      go_wp2_with fail
      refine (RVal.as (ref_pen_any f b d l _) (congrArg Value.bool HPB.out)).mono ?_
      rintro e w2 ⟨rfl, b2⟩
      have B2 : Hid (Below w.heap.size w w2) := B1.out.trans (b2.mono B1.out.size)
      have G2 := Lib.hid (G1.out.below b2 (by omega))
      have P2 := Lib.hid (P1.out.below b2 (by omega))
      have hz2 : w.heap.size + 2 ≤ w2.heap.size := Nat.le_trans hz1 b2.size
      have L2 := Lib.hid (L1.out.below b2)
      have hgl2 : gl < w2.heap.size := Nat.lt_of_lt_of_le hgl b2.size
      clear b2 g0 g1 g2 e0 e1 e2 e3 e4 e5 e6 e7 e8
      cases pb with
      | false =>
        go_wp2_with fail
        refine (gfixed_any _ (HT.out.below B2.out)).mono ?_
        rintro e w3 ⟨rfl, b3⟩
        have B3 : Hid (Below w.heap.size w w3) := B2.out.trans (b3.mono B2.out.size)
        clear b3
        go_wp2_with fail
        go_ret
        exact ⟨rfl, B3.out⟩
      | true =>
        have g0 := Own.cell G2.out 0
        have g1 := Own.cell G2.out 1
        have g2 := Own.cell G2.out 2
        simp only [List.getElem?_toArray, List.getElem?_cons_zero, List.getElem?_cons_succ] at g0 g1 g2
        go_wp2_with fail
        refine (growfn_any C R z a xs.length cp xs w2 (HL.out.below B2.out) hcp (HT.out.below B2.out)).mono ?_
        by_cases hz : 0 ≤ z ∧ z < (R : Int)
        · obtain ⟨Y, rfl⟩ : ∃ Y : Nat, z = Y := ⟨z.toNat, by omega⟩
          have hYR : Y < R := by omega
          have HF : Hid (growP C R xs Y = rowOf C Y xs) := by unfold growP; rw [if_pos ⟨HMB.out, hz.1, hz.2⟩, Int.toNat_natCast, Int.toNat_natCast]; rfl
          have HRL : Hid ((rowOf C Y xs).length = C) := row_len HO5.out hYR
          rw [HF.out]
          rintro e w3 ⟨v3, rfl, r3, b3⟩
          obtain ⟨ra, rc, rfl, rcl⟩ := r3.cells
          rw [HRL.out] at rcl ⊢
          have B3 : Hid (Below w.heap.size w w3) := B2.out.trans (b3.mono B2.out.size)
          have G3 := Lib.hid (G2.out.below b3 (by omega))
          have P3 := Lib.hid (P2.out.below b3 (by omega))
          have hz3 : w.heap.size + 2 ≤ w3.heap.size := Nat.le_trans hz2 b3.size
          have L3 := Lib.hid (L2.out.below b3)
          have RC3 := Lib.hid rcl
          have hgl3 : gl < w3.heap.size := Nat.lt_of_lt_of_le hgl2 b3.size
          have hd1 : decide ((Y : Int) < 0) = false := decide_eq_false (by omega)
          have hd2 : decide ((R : Int) ≤ (Y : Int)) = false := decide_eq_false (by omega)
          have hd3 : decide (R ≤ Y) = false := decide_eq_false (by omega)
          clear b3 r3 rcl g0 g1 g2 hz
          have g0 := Own.cell G3.out 0
          have g1 := Own.cell G3.out 1
          have g2 := Own.cell G3.out 2
          simp only [List.getElem?_toArray, List.getElem?_cons_zero, List.getElem?_cons_succ] at g0 g1 g2
          have e0 := Own.cell P3.out 0
          have e1 := Own.cell P3.out 1
          have e2 := Own.cell P3.out 2
          have e3 := Own.cell P3.out 3
          have e4 := Own.cell P3.out 4
          have e5 := Own.cell P3.out 5
          have e6 := Own.cell P3.out 6
          have e7 := Own.cell P3.out 7
          have e8 := Own.cell P3.out 8
          simp only [List.getElem?_toArray, List.getElem?_cons_zero, List.getElem?_cons_succ] at e0 e1 e2 e3 e4 e5 e6 e7 e8
          go_wp2_with fail
          have HGD := Lib.hid (gdo_turn C R ⟨k, x, y, m, rr, f, b, d, l⟩ hkk a xs.length cp xs w3 (HL.out.below B3.out) hcp (HT.out.below B3.out))
          have hok : (gridMay C R xs && penMay f b) = true := by rw [HMB.out, HPB.out]; rfl
          have hoc : okI C R xs f b C = C := by unfold okI; rw [if_pos hok]
          have hor : okI C R xs f b R = R := by unfold okI; rw [if_pos hok]
          obtain ⟨M, hM⟩ : ∃ M, turnP C R xs y f b (tfo ⟨k, x, y, m, rr, f, b, d, l⟩) = M := ⟨_, rfl⟩
          simp only at HGD
          rw [hoc, hor, hM] at HGD
          have hMok : GridOk C R M := by
            rw [← hM]
            unfold turnP
            rw [if_pos hok]
            split
            · rename_i hy
              rw [Int.toNat_natCast]
              obtain ⟨q1, q2⟩ := tfo_row (o := ⟨k, x, y, m, rr, f, b, d, l⟩) HPB.out (HGO.out.2.2.2.2.2 y.toNat (by omega))
              exact set_ok HGO.out (by omega) (q2.trans (row_len HO5.out (by omega))) q1
            · exact HGO.out
          have HGN : Hid (y ≠ (Y : Int) → growP C R M Y = rowOf C Y xs) := fun hne => by
            unfold growP
            rw [if_pos ⟨gmay_iff.2 ⟨C, R, rfl, rfl, hMok⟩, by omega, by omega⟩, Int.toNat_natCast, Int.toNat_natCast, ← hM]
            unfold turnP
            rw [if_pos hok]
            split
            · rename_i hy
              rw [Int.toNat_natCast, rowOf_set HO5.out (by omega) hYR ((tfo_row (o := ⟨k, x, y, m, rr, f, b, d, l⟩) HPB.out (HGO.out.2.2.2.2.2 y.toNat (by omega))).2.trans (row_len HO5.out (by omega))), if_neg (by omega)]
            · rfl
          clear hM hMok hok hoc hor e0 e1 e2 e3 e4 e5 e6 e7 e8 g0 g1 g2
          refine HGD.out.mono ?_
          clear HGD
          rintro e w4 ⟨v4, rfl, r4, b4⟩
          obtain ⟨ma, mc, rfl, ml⟩ := r4.cells
          have B4 : Hid (Below w.heap.size w w4) := B3.out.trans (b4.mono B3.out.size)
          have G4 := Lib.hid (G3.out.below b4 (by omega))
          have P4 := Lib.hid (P3.out.below b4 (by omega))
          have hz4 : w.heap.size + 2 ≤ w4.heap.size := Nat.le_trans hz3 b4.size
          have L4 := Lib.hid (L3.out.below b4)
          have RC4 := Lib.hid (RC3.out.below b4)
          have MC4 := Lib.hid ml
          have hgl4 : gl < w4.heap.size := Nat.lt_of_lt_of_le hgl3 b4.size
          have hmc : M.length ≤ mc := by
            rcases Nat.eq_zero_or_pos M.length with e | e
            · omega
            · exact crow_cap r4 e
          clear b4 r4 ml
          go_upto_region 8 with fail
          have HB8 : Hid (Own (w4.alloc (.cells #[.int .i64 C, .int .i64 R, .slice ma M.length mc] 49)) w4.heap.size 49 #[.int .i64 C, .int .i64 R, .slice ma M.length mc]) := Own.new w4 49 _
          have B7 : Hid (Below w.heap.size w (w4.alloc (.cells #[.int .i64 C, .int .i64 R, .slice ma M.length mc] 49))) := B4.out.alloc B4.out.size _
          have P7 := Lib.hid (P4.out.alloc (.cells #[.int .i64 C, .int .i64 R, .slice ma M.length mc] 49))
          have L7 : Hid (RowsAt (w4.alloc (.cells #[.int .i64 C, .int .i64 R, .slice ma M.length mc] 49)) w0.heap.size (.slice (some ⟨gl, 0, none⟩) R lc) (rowsL C R xs)) := L4.out.below ((Below.refl _ _).alloc (Nat.le_refl _) _)
          have RC7 := Lib.hid (RC4.out.alloc (.cells #[.int .i64 C, .int .i64 R, .slice ma M.length mc] 49))
          have MC7 := Lib.hid (MC4.out.alloc (.cells #[.int .i64 C, .int .i64 R, .slice ma M.length mc] 49))
          have hgl7 : gl < (w4.alloc (.cells #[.int .i64 C, .int .i64 R, .slice ma M.length mc] 49)).heap.size := by simp; omega
          have hz7 : w.heap.size + 2 ≤ (w4.alloc (.cells #[.int .i64 C, .int .i64 R, .slice ma M.length mc] 49)).heap.size := by simp; omega
          generalize w4.alloc (.cells #[.int .i64 C, .int .i64 R, .slice ma M.length mc] 49) = w7 at HB8 B7 P7 L7 RC7 MC7 hgl7 hz7 ⊢
          generalize w4.heap.size = hb at HB8 ⊢
          obtain ⟨la', lb, hcw, hrw, _⟩ := rows_at L7.out hYR
          rw [rowsL_at hYR, HRL.out] at hcw hrw
          have hlc := cells_of hrw
          obtain ⟨_, _, hla, _, _⟩ := hlc.2.2 (by omega)
          obtain ⟨la, hla2⟩ : ∃ la, la' = some la := ⟨_, hla⟩
          subst hla2
          have B8 : Hid (Below w.heap.size w w7.drew) := below_drewN B7.out 1
          have S8 : Hid (w7.drew.cell? ⟨w.heap.size + 1, 2, none⟩ = some (.int .i64 y) ∧ (w7.drew.cell? ⟨hb, 0, none⟩ = some (.int .i64 C) ∧ w7.drew.cell? ⟨hb, 1, none⟩ = some (.int .i64 R) ∧ w7.drew.cell? ⟨hb, 2, none⟩ = some (.slice ma M.length mc)) ∧ w7.drew.cell? ⟨gl, Y, none⟩ = some (.slice (some la) C lb)) := ⟨Own.cell P7.out 2, ⟨Own.cell HB8.out 0, Own.cell HB8.out 1, Own.cell HB8.out 2⟩, hcw⟩
          have LR8 : Hid (Cells w7.drew (some la) C (rowOf C Y xs)) := hlc
          have RC8 : Hid (Cells w7.drew ra C (rowOf C Y xs)) := RC7.out
          have MC8 : Hid (Cells w7.drew ma M.length M) := MC7.out
          have h18 : w.heap.size + 1 < w7.drew.heap.size := by have h : w7.drew.heap.size = w7.heap.size := rfl; omega
          have h28 : hb < w7.drew.heap.size := HB8.out.lt
          have h38 : gl < w7.drew.heap.size := hgl7
          have hYi0 : (0 : Int) ≤ (Y : Int) := by omega
          have hYi1 : (Y : Int) < (R : Int) := by omega
          clear hcw hrw hlc hla B7 P7 L7 RC7 MC7 HB8
          go_upto_region 8 with fail
          go_cut [6] (fun v wc => v = .bool true ∧ Hid (Below w.heap.size w wc))
          case first =>
            cases hyY : ((Y : Int) == y) with
            | true =>
              refine wp_region_bits_at (S := fun w' => w'.cell? ⟨w.heap.size + 1, 2, none⟩ = some (.int .i64 y) ∧ (w'.cell? ⟨hb, 0, none⟩ = some (.int .i64 C) ∧ w'.cell? ⟨hb, 1, none⟩ = some (.int .i64 R) ∧ w'.cell? ⟨hb, 2, none⟩ = some (.slice ma M.length mc)) ∧ w'.cell? ⟨gl, Y, none⟩ = some (.slice (some la) C lb)) [(0, false), (1, true), (2, true), (3, true), (4, true), (5, true), (6, true), (7, false), (8, true), (9, true), (10, true), (11, true), (12, true), (13, true), (14, true), (15, true), (16, true), (18, true), (19, true), (20, true), (21, true), (17, false), (22, false), (23, true), (24, true), (25, true)] [] (by kernel_rfl) (by kernel_rfl) (fun c a d v w h => by cases d <;> exact h) S8.out ?_
              simp only [bits_, bitOf, List.getElem?_cons_zero, List.getElem?_cons_succ, List.contains_nil]
              repeat (first | (refine bits_take (v := ?_) (by rfl) ?_ ?_; rotate_left; (· intro w' hS; obtain ⟨s0, ⟨s1, s2, s3⟩, s4⟩ := hS; go_simp; (try (go_ints; try go_simp)); with_reducible rfl); (try simp only [Act.put, List.setIfInBounds_toArray, List.set_cons_zero, List.set_cons_succ])) | (refine bits_skip (by rfl) ?_; (try simp only [Act.put, List.setIfInBounds_toArray, List.set_cons_zero, List.set_cons_succ])))
              refine bits_eff (by rfl) (fun K hK => ?_)
              go_simp
              (try go_ints)
              refine (gfixed_any _ (HT.out.below B8.out)).mono ?_
              rintro e w9 ⟨rfl, b9⟩
              have h19 : w.heap.size + 1 < w9.heap.size := Nat.lt_of_lt_of_le h18 b9.size
              have h29 : hb < w9.heap.size := Nat.lt_of_lt_of_le h28 b9.size
              have h39 : gl < w9.heap.size := Nat.lt_of_lt_of_le h38 b9.size
              have B9 : Hid (Below w.heap.size w w9) := B8.out.trans (b9.mono B8.out.size)
              have LR9 := Lib.hid (LR8.out.below b9)
              have RC9 := Lib.hid (RC8.out.below b9)
              have MC9 := Lib.hid (MC8.out.below b9)
              have S9 : Hid (w9.cell? ⟨w.heap.size + 1, 2, none⟩ = some (.int .i64 y) ∧ (w9.cell? ⟨hb, 0, none⟩ = some (.int .i64 C) ∧ w9.cell? ⟨hb, 1, none⟩ = some (.int .i64 R) ∧ w9.cell? ⟨hb, 2, none⟩ = some (.slice ma M.length mc)) ∧ w9.cell? ⟨gl, Y, none⟩ = some (.slice (some la) C lb)) := ⟨(b9.cell (p := ⟨w.heap.size + 1, 2, none⟩) h18).trans S8.out.1, ⟨(b9.cell (p := ⟨hb, 0, none⟩) h28).trans S8.out.2.1.1, (b9.cell (p := ⟨hb, 1, none⟩) h28).trans S8.out.2.1.2.1, (b9.cell (p := ⟨hb, 2, none⟩) h28).trans S8.out.2.1.2.2⟩, (b9.cell (p := ⟨gl, Y, none⟩) h38).trans S8.out.2.2⟩
              clear b9
              refine hK _ _ ?_ ?_
              · exact S9.out
              clear hK K
              (try simp only [Act.put, List.setIfInBounds_toArray, List.set_cons_zero, List.set_cons_succ])
              repeat (first | (refine bits_take (v := ?_) (by rfl) ?_ ?_; rotate_left; (· intro w' hS; obtain ⟨s0, ⟨s1, s2, s3⟩, s4⟩ := hS; go_simp; (try (go_ints; try go_simp)); with_reducible rfl); (try simp only [Act.put, List.setIfInBounds_toArray, List.set_cons_zero, List.set_cons_succ])) | (refine bits_skip (by rfl) ?_; (try simp only [Act.put, List.setIfInBounds_toArray, List.set_cons_zero, List.set_cons_succ])))
              refine bits_eff (by rfl) (fun K hK => ?_)
              go_simp
              (try go_ints)
              refine (gsame_any ra (some la) C rc C lb (rowOf C Y xs) (rowOf C Y xs) _ RC9.out LR9.out).mono ?_
              rintro e w10 ⟨he10, q10, hq10⟩
              obtain rfl : e = .returned (.bool true) := by rw [he10, decide_eq_true rfl]
              have b10 : Below w9.heap.size w9 w10 := by rw [← hq10]; exact below_drewN (Below.refl _ _) q10
              have h110 : w.heap.size + 1 < w10.heap.size := Nat.lt_of_lt_of_le h19 b10.size
              have h210 : hb < w10.heap.size := Nat.lt_of_lt_of_le h29 b10.size
              have h310 : gl < w10.heap.size := Nat.lt_of_lt_of_le h39 b10.size
              have B10 : Hid (Below w.heap.size w w10) := B9.out.trans (b10.mono B9.out.size)
              have LR10 := Lib.hid (LR9.out.below b10)
              have RC10 := Lib.hid (RC9.out.below b10)
              have MC10 := Lib.hid (MC9.out.below b10)
              have S10 : Hid (w10.cell? ⟨w.heap.size + 1, 2, none⟩ = some (.int .i64 y) ∧ (w10.cell? ⟨hb, 0, none⟩ = some (.int .i64 C) ∧ w10.cell? ⟨hb, 1, none⟩ = some (.int .i64 R) ∧ w10.cell? ⟨hb, 2, none⟩ = some (.slice ma M.length mc)) ∧ w10.cell? ⟨gl, Y, none⟩ = some (.slice (some la) C lb)) := ⟨(b10.cell (p := ⟨w.heap.size + 1, 2, none⟩) h19).trans S9.out.1, ⟨(b10.cell (p := ⟨hb, 0, none⟩) h29).trans S9.out.2.1.1, (b10.cell (p := ⟨hb, 1, none⟩) h29).trans S9.out.2.1.2.1, (b10.cell (p := ⟨hb, 2, none⟩) h29).trans S9.out.2.1.2.2⟩, (b10.cell (p := ⟨gl, Y, none⟩) h39).trans S9.out.2.2⟩
              clear b10 he10 hq10
              refine hK _ _ ?_ ?_
              · exact S10.out
              clear hK K
              (try simp only [Act.put, List.setIfInBounds_toArray, List.set_cons_zero, List.set_cons_succ])
              repeat (first | (refine bits_take (v := ?_) (by rfl) ?_ ?_; rotate_left; (· intro w' hS; obtain ⟨s0, ⟨s1, s2, s3⟩, s4⟩ := hS; go_simp; (try (go_ints; try go_simp)); with_reducible rfl); (try simp only [Act.put, List.setIfInBounds_toArray, List.set_cons_zero, List.set_cons_succ])) | (refine bits_skip (by rfl) ?_; (try simp only [Act.put, List.setIfInBounds_toArray, List.set_cons_zero, List.set_cons_succ])))
              refine bits_pass (by rfl) ?_ ?_
              · exact S10.out
              (try simp only [Act.put, List.setIfInBounds_toArray, List.set_cons_zero, List.set_cons_succ])
              repeat (first | (refine bits_take (v := ?_) (by rfl) ?_ ?_; rotate_left; (· intro w' hS; obtain ⟨s0, ⟨s1, s2, s3⟩, s4⟩ := hS; go_simp; (try (go_ints; try go_simp)); with_reducible rfl); (try simp only [Act.put, List.setIfInBounds_toArray, List.set_cons_zero, List.set_cons_succ])) | (refine bits_skip (by rfl) ?_; (try simp only [Act.put, List.setIfInBounds_toArray, List.set_cons_zero, List.set_cons_succ])))
              refine bits_pass (by rfl) ?_ ?_
              · exact S10.out
              (try simp only [Act.put, List.setIfInBounds_toArray, List.set_cons_zero, List.set_cons_succ])
              repeat (first | (refine bits_take (v := ?_) (by rfl) ?_ ?_; rotate_left; (· intro w' hS; obtain ⟨s0, ⟨s1, s2, s3⟩, s4⟩ := hS; go_simp; (try (go_ints; try go_simp)); with_reducible rfl); (try simp only [Act.put, List.setIfInBounds_toArray, List.set_cons_zero, List.set_cons_succ])) | (refine bits_skip (by rfl) ?_; (try simp only [Act.put, List.setIfInBounds_toArray, List.set_cons_zero, List.set_cons_succ])))
              refine bits_nil ?_
              refine Met.intro ?_
              go_step
              go_meet
              exact ⟨rfl, B10⟩
            | false =>
              have HGN2 := Lib.hid (HGN.out (fun e => by have := beq_eq_false_iff_ne.1 hyY; omega))
              refine wp_region_bits_at (S := fun w' => w'.cell? ⟨w.heap.size + 1, 2, none⟩ = some (.int .i64 y) ∧ (w'.cell? ⟨hb, 0, none⟩ = some (.int .i64 C) ∧ w'.cell? ⟨hb, 1, none⟩ = some (.int .i64 R) ∧ w'.cell? ⟨hb, 2, none⟩ = some (.slice ma M.length mc)) ∧ w'.cell? ⟨gl, Y, none⟩ = some (.slice (some la) C lb)) [(0, false), (1, true), (2, true), (3, true), (4, true), (5, true), (6, true), (7, false), (8, true), (9, true), (10, true), (11, true), (12, true), (13, true), (14, true), (15, true), (16, true), (18, true), (19, true), (20, true), (21, true), (17, false), (22, false), (23, true), (24, true), (25, true)] [] (by kernel_rfl) (by kernel_rfl) (fun c a d v w h => by cases d <;> exact h) S8.out ?_
              simp only [bits_, bitOf, List.getElem?_cons_zero, List.getElem?_cons_succ, List.contains_nil]
              repeat (first | (refine bits_take (v := ?_) (by rfl) ?_ ?_; rotate_left; (· intro w' hS; obtain ⟨s0, ⟨s1, s2, s3⟩, s4⟩ := hS; go_simp; (try (go_ints; try go_simp)); with_reducible rfl); (try simp only [Act.put, List.setIfInBounds_toArray, List.set_cons_zero, List.set_cons_succ])) | (refine bits_skip (by rfl) ?_; (try simp only [Act.put, List.setIfInBounds_toArray, List.set_cons_zero, List.set_cons_succ])))
              refine bits_eff (by rfl) (fun K hK => ?_)
              go_simp
              (try go_ints)
              refine (gfixed_any _ (HT.out.below B8.out)).mono ?_
              rintro e w9 ⟨rfl, b9⟩
              have h19 : w.heap.size + 1 < w9.heap.size := Nat.lt_of_lt_of_le h18 b9.size
              have h29 : hb < w9.heap.size := Nat.lt_of_lt_of_le h28 b9.size
              have h39 : gl < w9.heap.size := Nat.lt_of_lt_of_le h38 b9.size
              have B9 : Hid (Below w.heap.size w w9) := B8.out.trans (b9.mono B8.out.size)
              have LR9 := Lib.hid (LR8.out.below b9)
              have RC9 := Lib.hid (RC8.out.below b9)
              have MC9 := Lib.hid (MC8.out.below b9)
              have S9 : Hid (w9.cell? ⟨w.heap.size + 1, 2, none⟩ = some (.int .i64 y) ∧ (w9.cell? ⟨hb, 0, none⟩ = some (.int .i64 C) ∧ w9.cell? ⟨hb, 1, none⟩ = some (.int .i64 R) ∧ w9.cell? ⟨hb, 2, none⟩ = some (.slice ma M.length mc)) ∧ w9.cell? ⟨gl, Y, none⟩ = some (.slice (some la) C lb)) := ⟨(b9.cell (p := ⟨w.heap.size + 1, 2, none⟩) h18).trans S8.out.1, ⟨(b9.cell (p := ⟨hb, 0, none⟩) h28).trans S8.out.2.1.1, (b9.cell (p := ⟨hb, 1, none⟩) h28).trans S8.out.2.1.2.1, (b9.cell (p := ⟨hb, 2, none⟩) h28).trans S8.out.2.1.2.2⟩, (b9.cell (p := ⟨gl, Y, none⟩) h38).trans S8.out.2.2⟩
              clear b9
              refine hK _ _ ?_ ?_
              · exact S9.out
              clear hK K
              (try simp only [Act.put, List.setIfInBounds_toArray, List.set_cons_zero, List.set_cons_succ])
              repeat (first | (refine bits_take (v := ?_) (by rfl) ?_ ?_; rotate_left; (· intro w' hS; obtain ⟨s0, ⟨s1, s2, s3⟩, s4⟩ := hS; go_simp; (try (go_ints; try go_simp)); with_reducible rfl); (try simp only [Act.put, List.setIfInBounds_toArray, List.set_cons_zero, List.set_cons_succ])) | (refine bits_skip (by rfl) ?_; (try simp only [Act.put, List.setIfInBounds_toArray, List.set_cons_zero, List.set_cons_succ])))
              refine bits_eff (by rfl) (fun K hK => ?_)
              go_simp
              (try go_ints)
              refine (gsame_any ra (some la) C rc C lb (rowOf C Y xs) (rowOf C Y xs) _ RC9.out LR9.out).mono ?_
              rintro e w10 ⟨he10, q10, hq10⟩
              obtain rfl : e = .returned (.bool true) := by rw [he10, decide_eq_true rfl]
              have b10 : Below w9.heap.size w9 w10 := by rw [← hq10]; exact below_drewN (Below.refl _ _) q10
              have h110 : w.heap.size + 1 < w10.heap.size := Nat.lt_of_lt_of_le h19 b10.size
              have h210 : hb < w10.heap.size := Nat.lt_of_lt_of_le h29 b10.size
              have h310 : gl < w10.heap.size := Nat.lt_of_lt_of_le h39 b10.size
              have B10 : Hid (Below w.heap.size w w10) := B9.out.trans (b10.mono B9.out.size)
              have LR10 := Lib.hid (LR9.out.below b10)
              have RC10 := Lib.hid (RC9.out.below b10)
              have MC10 := Lib.hid (MC9.out.below b10)
              have S10 : Hid (w10.cell? ⟨w.heap.size + 1, 2, none⟩ = some (.int .i64 y) ∧ (w10.cell? ⟨hb, 0, none⟩ = some (.int .i64 C) ∧ w10.cell? ⟨hb, 1, none⟩ = some (.int .i64 R) ∧ w10.cell? ⟨hb, 2, none⟩ = some (.slice ma M.length mc)) ∧ w10.cell? ⟨gl, Y, none⟩ = some (.slice (some la) C lb)) := ⟨(b10.cell (p := ⟨w.heap.size + 1, 2, none⟩) h19).trans S9.out.1, ⟨(b10.cell (p := ⟨hb, 0, none⟩) h29).trans S9.out.2.1.1, (b10.cell (p := ⟨hb, 1, none⟩) h29).trans S9.out.2.1.2.1, (b10.cell (p := ⟨hb, 2, none⟩) h29).trans S9.out.2.1.2.2⟩, (b10.cell (p := ⟨gl, Y, none⟩) h39).trans S9.out.2.2⟩
              clear b10 he10 hq10
              refine hK _ _ ?_ ?_
              · exact S10.out
              clear hK K
              (try simp only [Act.put, List.setIfInBounds_toArray, List.set_cons_zero, List.set_cons_succ])
              repeat (first | (refine bits_take (v := ?_) (by rfl) ?_ ?_; rotate_left; (· intro w' hS; obtain ⟨s0, ⟨s1, s2, s3⟩, s4⟩ := hS; go_simp; (try (go_ints; try go_simp)); with_reducible rfl); (try simp only [Act.put, List.setIfInBounds_toArray, List.set_cons_zero, List.set_cons_succ])) | (refine bits_skip (by rfl) ?_; (try simp only [Act.put, List.setIfInBounds_toArray, List.set_cons_zero, List.set_cons_succ])))
              refine bits_eff (by rfl) (fun K hK => ?_)
              go_simp
              (try go_ints)
              refine (growfn_any C R Y ma M.length mc M _ MC10.out hmc (HT.out.below B10.out)).mono ?_
              rw [HGN2.out]
              rintro e w11 ⟨v11, rfl, r11, b11⟩
              obtain ⟨za, zc, rfl, zl⟩ := r11.cells
              rw [HRL.out] at zl
              have ZC11 := Lib.hid zl
              have h111 : w.heap.size + 1 < w11.heap.size := Nat.lt_of_lt_of_le h110 b11.size
              have h211 : hb < w11.heap.size := Nat.lt_of_lt_of_le h210 b11.size
              have h311 : gl < w11.heap.size := Nat.lt_of_lt_of_le h310 b11.size
              have B11 : Hid (Below w.heap.size w w11) := B10.out.trans (b11.mono B10.out.size)
              have LR11 := Lib.hid (LR10.out.below b11)
              have RC11 := Lib.hid (RC10.out.below b11)
              have MC11 := Lib.hid (MC10.out.below b11)
              have S11 : Hid (w11.cell? ⟨w.heap.size + 1, 2, none⟩ = some (.int .i64 y) ∧ (w11.cell? ⟨hb, 0, none⟩ = some (.int .i64 C) ∧ w11.cell? ⟨hb, 1, none⟩ = some (.int .i64 R) ∧ w11.cell? ⟨hb, 2, none⟩ = some (.slice ma M.length mc)) ∧ w11.cell? ⟨gl, Y, none⟩ = some (.slice (some la) C lb)) := ⟨(b11.cell (p := ⟨w.heap.size + 1, 2, none⟩) h110).trans S10.out.1, ⟨(b11.cell (p := ⟨hb, 0, none⟩) h210).trans S10.out.2.1.1, (b11.cell (p := ⟨hb, 1, none⟩) h210).trans S10.out.2.1.2.1, (b11.cell (p := ⟨hb, 2, none⟩) h210).trans S10.out.2.1.2.2⟩, (b11.cell (p := ⟨gl, Y, none⟩) h310).trans S10.out.2.2⟩
              clear b11 r11 zl
              refine hK _ _ ?_ ?_
              · exact S11.out
              clear hK K
              (try simp only [Act.put, List.setIfInBounds_toArray, List.set_cons_zero, List.set_cons_succ])
              repeat (first | (refine bits_take (v := ?_) (by rfl) ?_ ?_; rotate_left; (· intro w' hS; obtain ⟨s0, ⟨s1, s2, s3⟩, s4⟩ := hS; go_simp; (try (go_ints; try go_simp)); with_reducible rfl); (try simp only [Act.put, List.setIfInBounds_toArray, List.set_cons_zero, List.set_cons_succ])) | (refine bits_skip (by rfl) ?_; (try simp only [Act.put, List.setIfInBounds_toArray, List.set_cons_zero, List.set_cons_succ])))
              refine bits_eff (by rfl) (fun K hK => ?_)
              go_simp
              (try go_ints)
              rw [HRL.out]
              refine (gsame_any za (some la) C zc C lb (rowOf C Y xs) (rowOf C Y xs) _ ZC11.out LR11.out).mono ?_
              rintro e w12 ⟨he12, q12, hq12⟩
              obtain rfl : e = .returned (.bool true) := by rw [he12, decide_eq_true rfl]
              have b12 : Below w11.heap.size w11 w12 := by rw [← hq12]; exact below_drewN (Below.refl _ _) q12
              have h112 : w.heap.size + 1 < w12.heap.size := Nat.lt_of_lt_of_le h111 b12.size
              have h212 : hb < w12.heap.size := Nat.lt_of_lt_of_le h211 b12.size
              have h312 : gl < w12.heap.size := Nat.lt_of_lt_of_le h311 b12.size
              have B12 : Hid (Below w.heap.size w w12) := B11.out.trans (b12.mono B11.out.size)
              have LR12 := Lib.hid (LR11.out.below b12)
              have RC12 := Lib.hid (RC11.out.below b12)
              have MC12 := Lib.hid (MC11.out.below b12)
              have S12 : Hid (w12.cell? ⟨w.heap.size + 1, 2, none⟩ = some (.int .i64 y) ∧ (w12.cell? ⟨hb, 0, none⟩ = some (.int .i64 C) ∧ w12.cell? ⟨hb, 1, none⟩ = some (.int .i64 R) ∧ w12.cell? ⟨hb, 2, none⟩ = some (.slice ma M.length mc)) ∧ w12.cell? ⟨gl, Y, none⟩ = some (.slice (some la) C lb)) := ⟨(b12.cell (p := ⟨w.heap.size + 1, 2, none⟩) h111).trans S11.out.1, ⟨(b12.cell (p := ⟨hb, 0, none⟩) h211).trans S11.out.2.1.1, (b12.cell (p := ⟨hb, 1, none⟩) h211).trans S11.out.2.1.2.1, (b12.cell (p := ⟨hb, 2, none⟩) h211).trans S11.out.2.1.2.2⟩, (b12.cell (p := ⟨gl, Y, none⟩) h311).trans S11.out.2.2⟩
              clear b12 he12 hq12
              refine hK _ _ ?_ ?_
              · exact S12.out
              clear hK K
              (try simp only [Act.put, List.setIfInBounds_toArray, List.set_cons_zero, List.set_cons_succ])
              repeat (first | (refine bits_take (v := ?_) (by rfl) ?_ ?_; rotate_left; (· intro w' hS; obtain ⟨s0, ⟨s1, s2, s3⟩, s4⟩ := hS; go_simp; (try (go_ints; try go_simp)); with_reducible rfl); (try simp only [Act.put, List.setIfInBounds_toArray, List.set_cons_zero, List.set_cons_succ])) | (refine bits_skip (by rfl) ?_; (try simp only [Act.put, List.setIfInBounds_toArray, List.set_cons_zero, List.set_cons_succ])))
              refine bits_nil ?_
              refine Met.intro ?_
              go_step
              go_meet
              exact ⟨rfl, B12⟩
          case rest =>
            obtain ⟨rfl, HBX⟩ := hcut
            go_wp2_with fail
            go_ret
            exact ⟨rfl, HBX.out⟩
        · have HF : Hid (growP C R xs z = []) := if_neg (fun h => hz h.2)
          rw [HF.out]
          rintro e w3 ⟨v3, rfl, r3, b3⟩
          obtain ⟨ra, rc, rfl, _⟩ := r3.cells
          have B3 : Hid (Below w.heap.size w w3) := B2.out.trans (b3.mono B2.out.size)
          have G3 := Lib.hid (G2.out.below b3 (by omega))
          have P3 := Lib.hid (P2.out.below b3 (by omega))
          have hz3 : w.heap.size + 2 ≤ w3.heap.size := Nat.le_trans hz2 b3.size
          clear b3 r3 g0 g1 g2
          rw [List.length_nil]
          go_upto_region 5 with fail
          go_cut [51] (fun v wc => v = .bool true ∧ w3 = wc)
          case first =>
            cases hd1 : decide (z < 0) with
            | true =>
              clear hz
              go_wp2_with fail
              go_meet
              exact ⟨rfl, rfl⟩
            | false =>
              have hd2 : decide ((R : Int) ≤ z) = true := decide_eq_true (by have := of_decide_eq_false hd1; omega)
              clear hz
              go_wp2_with fail
              go_meet
              exact ⟨rfl, rfl⟩
          case rest =>
            obtain ⟨rfl, rfl⟩ := hcut
            clear hz
            go_wp2_with fail
            refine (gfixed_any _ (HT.out.below B3.out)).mono ?_
            rintro e w4 ⟨rfl, b4⟩
            have B4 : Hid (Below w.heap.size w w4) := B3.out.trans (b4.mono B3.out.size)
            clear b4
            go_wp2_with fail
            go_ret
            exact ⟨rfl, B4.out⟩
end Go.Proofs.YtlhcehealjdbdaaDoor
