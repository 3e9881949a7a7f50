/- What Put and Erase are not asked to write at stays: the law's walk. -/
import Derived.Test.YtlhcehealjdbdaaDoorPoints
import Derived.Test.YtlhcehealjdbdaaDoorFixed
import Derived.Deep.DeepCutAuto
namespace Go.Proofs.YtlhcehealjdbdaaDoor
open Go.RowKit
set_option linter.unusedSimpArgs false
set_option linter.unusedVariables false
attribute [local go_sem] alloc_drewN setCell_drewN


def XAt (w : World) (p : Nat) (k x n : Int) : Prop := w.cell? ⟨p, 0, none⟩ = some (.int .i64 k) ∧ w.cell? ⟨p, 1, none⟩ = some (.int .i64 x) ∧ w.cell? ⟨p, 2, none⟩ = some (.int .i64 n)
set_option maxRecDepth 10000 in
set_option maxHeartbeats 2000000 in
theorem cellelse_walk (a : Option Addr) (n c : Nat) (o : Op8) (hox : o.x ≤ 9223372036854775807) (xs : List Glyph) (w : World) (hl : Cells w a n xs) (ht : Tabs w) : Calls Tryd.prog 7 #[.slice a n c, .agg #[.int .i64 o.k, .int .i64 o.x, .int .i64 o.n, .int .i32 o.r, .int .u32 o.f, .int .u32 o.b, .int .u8 o.a, .int .u16 o.l]] w (RVal (.bool true) w) := by
  obtain rfl := hl.1
  have HL := Lib.hid hl
  have HT := Lib.hid ht
  clear hl ht
  obtain ⟨rb, hrb⟩ : ∃ rb, rowMay xs = rb := ⟨_, rfl⟩
  obtain ⟨k, x, n, r, f, b, pa, pl⟩ := o
  have B0 : Hid (Below w.heap.size w (w.alloc (.cells #[.int .i64 k, .int .i64 x, .int .i64 n, .int .i32 r, .int .u32 f, .int .u32 b, .int .u8 pa, .int .u16 pl] 43))) := (Below.refl _ _).alloc (Nat.le_refl _) _
  have P0 : Hid (Own (w.alloc (.cells #[.int .i64 k, .int .i64 x, .int .i64 n, .int .i32 r, .int .u32 f, .int .u32 b, .int .u8 pa, .int .u16 pl] 43)) w.heap.size 43 #[.int .i64 k, .int .i64 x, .int .i64 n, .int .i32 r, .int .u32 f, .int .u32 b, .int .u8 pa, .int .u16 pl]) := Own.new w 43 _
  have hlt : w.heap.size < (w.alloc (.cells #[.int .i64 k, .int .i64 x, .int .i64 n, .int .i32 r, .int .u32 f, .int .u32 b, .int .u8 pa, .int .u16 pl] 43)).heap.size := by simp
  obtain ⟨pb, hpb⟩ : ∃ pb, penMay f b = pb := ⟨_, rfl⟩
  have HRB := Lib.hid hrb
  have HPB := Lib.hid hpb
  clear hrb hpb
  go_enter Tryd.func7, Tryd.ntmps7
  go_wp2_with fail
  refine (RVal.as (ref_row_any a xs.length c xs _ (HL.out.below B0.out)) (congrArg Value.bool HRB.out)).mono ?_
  rintro e w1 ⟨rfl, b1⟩
  have B1 : Hid (Below w.heap.size w w1) := B0.out.trans (b1.mono B0.out.size)
  have P1 := Lib.hid (P0.out.below b1 hlt)
  have hlt1 : w.heap.size < w1.heap.size := Nat.lt_of_lt_of_le hlt b1.size
  clear b1
  have e0 := Own.cell P1.out 0
  have e1 := Own.cell P1.out 1
  have e2 := Own.cell P1.out 2
  have e3 := Own.cell P1.out 3
  have e4 := Own.cell P1.out 4
  have e5 := Own.cell P1.out 5
  have e6 := Own.cell P1.out 6
  have e7 := Own.cell P1.out 7
  simp only [List.getElem?_toArray, List.getElem?_cons_zero, List.getElem?_cons_succ] at e0 e1 e2 e3 e4 e5 e6 e7
  cases rb with
  | false =>
    go_wp2_with fail
    refine (fixed_any _ (HT.out.below B1.out)).mono ?_
    rintro e w2 ⟨rfl, b2⟩
    have B2 : Hid (Below w.heap.size w w2) := B1.out.trans (b2.mono B1.out.size)
    clear b2
    go_wp2_with fail
    go_ret
    exact ⟨rfl, B2.out⟩
  | true =>
    go_wp2_with fail
    refine (RVal.as (ref_pen_any f b pa pl _) (congrArg Value.bool HPB.out)).mono ?_
    rintro e w2 ⟨rfl, b2⟩
    have B2 : Hid (Below w.heap.size w w2) := B1.out.trans (b2.mono B1.out.size)
    have P2 := Lib.hid (P1.out.below b2 hlt1)
    have hlt2 : w.heap.size < w2.heap.size := Nat.lt_of_lt_of_le hlt1 b2.size
    clear b2 e0 e1 e2 e3 e4 e5 e6 e7
    have e0 := Own.cell P2.out 0
    have e1 := Own.cell P2.out 1
    have e2 := Own.cell P2.out 2
    have e3 := Own.cell P2.out 3
    have e4 := Own.cell P2.out 4
    have e5 := Own.cell P2.out 5
    have e6 := Own.cell P2.out 6
    have e7 := Own.cell P2.out 7
    simp only [List.getElem?_toArray, List.getElem?_cons_zero, List.getElem?_cons_succ] at e0 e1 e2 e3 e4 e5 e6 e7
    cases pb with
    | false =>
      go_wp2_with fail
      refine (fixed_any _ (HT.out.below B2.out)).mono ?_
      rintro e w3 ⟨rfl, b3⟩
      have B3 : Hid (Below w.heap.size w w3) := B2.out.trans (b3.mono B2.out.size)
      clear b3
      go_wp2_with fail
      go_ret
      exact ⟨rfl, B3.out⟩
    | true =>
      by_cases hk : k = 0 ∨ k = 1
      · have hok : (rowMay xs && penMay f b) = true := by rw [HRB.out, HPB.out]; rfl
        have HOK := Lib.hid hok
        have hn1 := (row_iff.1 HRB.out).1
        have hn8 := (row_iff.1 HRB.out).2.1
        clear hok
        rcases hk with rfl | rfl
        · have hml : (putP xs x r f b pa pl).length = xs.length := put_len HOK.out
          obtain ⟨M, hM⟩ : ∃ M, putP xs x r f b pa pl = M := ⟨_, rfl⟩
          have HD : Hid (Calls Tryd.prog 29 #[.slice a xs.length c, .agg #[.int .i64 0, .int .i64 x, .int .i64 n, .int .i32 r, .int .u32 f, .int .u32 b, .int .u8 pa, .int .u16 pl]] w2 (GPost M w2)) := by
            rw [← hM]
            exact do_any a xs.length c ⟨0, x, n, r, f, b, pa, pl⟩ (by simp only; omega) xs w2 (HL.out.below B2.out) (HT.out.below B2.out)
          rw [hM] at hml
          have HML := Lib.hid hml
          have HKEEP : Hid (∀ i, i < xs.length → _ ∧ _) := fun i hi => put_keeps (x := x) (r := r) (d := pa) (l := pl) HOK.out hi rfl
          rw [hM] at HKEEP
          clear hM hml
          go_wp2_with fail
          refine HD.out.mono ?_
          clear HD
          rintro e w3 ⟨v3, rfl, r3, b3⟩
          obtain ⟨ma, mc, hv3, _⟩ := r3.cells
          rw [HML.out] at hv3
          obtain rfl := hv3
          have R3 : Hid (CRow w3 w2.heap.size (.slice ma xs.length mc) M) := r3
          have B3 : Hid (Below w.heap.size w w3) := B2.out.trans (b3.mono B2.out.size)
          have P3 := Lib.hid (P2.out.below b3 hlt2)
          have hlt3 : w.heap.size < w3.heap.size := Nat.lt_of_lt_of_le hlt2 b3.size
          clear r3 b3 e0 e1 e2 e3 e4 e5 e6 e7
          go_wp2_with fail
          refine (fixed_any _ (HT.out.below B3.out)).mono ?_
          rintro e w4 ⟨rfl, b4⟩
          have R4 := Lib.hid (R3.out.below b4)
          have B4 : Hid (Below w.heap.size w w4) := B3.out.trans (b4.mono B3.out.size)
          have P4 := Lib.hid (P3.out.below b4 hlt3)
          have hlt4 : w.heap.size < w4.heap.size := Nat.lt_of_lt_of_le hlt3 b4.size
          clear b4
          have S4 : Hid (XAt w4.drew w.heap.size 0 x n) := ⟨Own.cell P4.out 0, Own.cell P4.out 1, Own.cell P4.out 2⟩
          go_wp2_with fail
          refine wp_region_bits_at (S := fun w' => XAt w' w.heap.size 0 x n) [(0, true), (1, true), (2, true), (3, true), (4, true), (5, true)] [] (by kernel_rfl) (by kernel_rfl) (fun c a d v w h => by cases d <;> exact h) S4.out ?_
          simp only [bits_, bitOf, List.getElem?_cons_zero, List.getElem?_cons_succ, List.contains_nil]
          repeat (first | (refine bits_take (v := ?_) (by rfl) ?_ ?_; rotate_left; (· intro w' hS; obtain ⟨s0, s1, s2⟩ := hS; go_simp; (try (go_ints; try go_simp)); with_reducible rfl); (try simp only [Act.put, List.setIfInBounds_toArray, List.set_cons_zero, List.set_cons_succ])) | (refine bits_skip (by rfl) ?_; (try simp only [Act.put, List.setIfInBounds_toArray, List.set_cons_zero, List.set_cons_succ])))
          refine bits_nil ?_
          obtain ⟨e0, e1, e2⟩ := S4.out
          obtain ⟨S0, hS0⟩ : ∃ S0, max (-5) (min x xs.length) = S0 := ⟨_, rfl⟩
          obtain ⟨T0, hT0⟩ : ∃ T0, S0 + 2 = T0 := ⟨_, rfl⟩
          rw [hS0, hT0] at HKEEP
          have HS0 := Lib.hid hS0
          have HT0 := Lib.hid hT0
          have hSx : S0 ≤ 9223372036854775807 := by have := (row_iff.1 HRB.out).2.1; omega
          clear hS0 hT0
          go_upto_region 8 with fail
          go_cut [6, 7] (fun v1 v2 wc => v1 = .int .i64 S0 ∧ v2 = .int .i64 T0 ∧ wc = w4.drew.drew)
          case first =>
            refine wp_region_bits_at (S := fun w' => XAt w' w.heap.size 0 x n) [(0, true), (1, true), (2, true), (3, true), (4, true), (5, true), (6, true), (7, true), (8, true), (9, true), (10, true), (11, true), (12, true), (13, true), (14, true)] [] (by kernel_rfl) (by kernel_rfl) (fun c a d v w h => by cases d <;> exact h) S4.out ?_
            simp only [bits_, bitOf, List.getElem?_cons_zero, List.getElem?_cons_succ, List.contains_nil]
            repeat (first | (refine bits_take (v := ?_) (by rfl) ?_ ?_; rotate_left; (· intro w' hS; obtain ⟨s0, s1, s2⟩ := hS; go_simp; (try (go_ints; try go_simp)); with_reducible rfl); (try simp only [Act.put, List.setIfInBounds_toArray, List.set_cons_zero, List.set_cons_succ])) | (refine bits_skip (by rfl) ?_; (try simp only [Act.put, List.setIfInBounds_toArray, List.set_cons_zero, List.set_cons_succ])))
            refine bits_nil ?_
            have hS0 := HS0.out
            have hT0 := HT0.out
            refine Met.intro ?_
            go_step
            go_meet
            exact ⟨congrArg (Value.int .i64) (by (repeat' split) <;> omega), congrArg (Value.int .i64) (by (try unfold wrap64); (repeat' split) <;> omega), rfl⟩
          case rest =>
            obtain ⟨rfl, rfl, rfl⟩ := hcut
            obtain ⟨g, rfl⟩ := crow_addr R4.out (by omega)
            obtain ⟨bl, off, rfl, hbl, hc⟩ := (HL.out.below B4.out).2.2 (by omega)
            have HC := Lib.hid hc
            clear hc
            go_wp2_with fail
            go_loopw [63] (fun i wr => ∃ (q m : Nat), q ≤ xs.length ∧ i = .int .i64 q ∧ wr = w4.drewN m) (fun i _ => xs.length - (intOf i).toNat)
            case atStart => exact ⟨0, 2, by omega, rfl, rfl⟩
            case round =>
              obtain ⟨q, m, hq, rfl, rfl⟩ := hrel
              by_cases hqn : q < xs.length
              · obtain ⟨z, hz⟩ : ∃ z, at_ xs q = z := ⟨_, rfl⟩
                obtain ⟨y, hy⟩ : ∃ y, at_ M q = y := ⟨_, rfl⟩
                have HK := Lib.hid (HKEEP.out q hqn)
                rw [hz, hy] at HK
                have G1 : Hid (GAt w4.drew bl (off + q * 6) z ∧ GAt w4.drew g (q * 6) y) := ⟨by rw [← hz]; exact HC.out q hqn, by rw [← hy]; exact (crow_at R4.out hqn).1⟩
                clear hz hy
                have hq0 : (0 : Int) ≤ (q : Int) := by omega
                have hq1 : (q : Int) < xs.length := by omega
                have HQ : Hid (q < xs.length) := hqn
                go_upto_region 12 with fail
                go_cut [93] (fun v wc => v = .bool false ∧ wc = (w4.drewN m).drew)
                case first =>
                  cases d1 : decide ((q : Int) < S0) with
                  | false =>
                    refine wp_region_bits_at (S := fun w' => GAt w' bl (off + q * 6) z ∧ GAt w' g (q * 6) y) [(0, true), (1, true), (2, true), (3, true), (4, true), (5, true), (6, true), (7, true), (8, true), (9, true), (10, true), (11, true), (12, true), (13, true), (14, true), (15, true), (16, true), (17, true), (18, true), (19, true), (20, true), (21, true), (22, true), (23, true), (24, true), (25, true), (26, true), (27, true)] [] (by kernel_rfl) (by kernel_rfl) (fun c a d v w h => by cases d <;> exact h) G1.out ?_
                    simp only [bits_, bitOf, List.getElem?_cons_zero, List.getElem?_cons_succ, List.contains_nil]
                    repeat (first | (refine bits_take (v := ?_) (by rfl) ?_ ?_; rotate_left; (· intro w' hS; obtain ⟨⟨s0, s1, s2, s3, s4, s5⟩, t0, t1, t2, t3, t4, t5⟩ := hS; go_simp; (try (go_ints; try go_simp)); with_reducible rfl); (try simp only [Act.put, List.setIfInBounds_toArray, List.set_cons_zero, List.set_cons_succ])) | (refine bits_skip (by rfl) ?_; (try simp only [Act.put, List.setIfInBounds_toArray, List.set_cons_zero, List.set_cons_succ])))
                    refine bits_nil ?_
                    refine Met.intro ?_
                    go_step
                    go_meet
                    exact ⟨rfl, rfl⟩
                  | true =>
                    have k1 := of_decide_eq_true d1
                    cases d2 : ((q : Int) != S0 - 1) with
                    | true =>
                      obtain rfl : z = y := (HK.out.1 k1 (.inl (bne_iff_ne.1 d2))).symm
                      refine wp_region_bits_at (S := fun w' => GAt w' bl (off + q * 6) z ∧ GAt w' g (q * 6) z) [(0, true), (1, true), (2, true), (3, true), (4, true), (5, true), (6, true), (7, true), (8, true), (9, true), (10, true), (11, true), (12, true), (13, true), (14, true), (15, true), (16, true), (17, true), (18, true), (19, true), (20, true), (21, true), (22, true), (23, true), (24, true), (25, true), (26, true), (27, true)] [] (by kernel_rfl) (by kernel_rfl) (fun c a d v w h => by cases d <;> exact h) G1.out ?_
                      simp only [bits_, bitOf, List.getElem?_cons_zero, List.getElem?_cons_succ, List.contains_nil]
                      repeat (first | (refine bits_take (v := ?_) (by rfl) ?_ ?_; rotate_left; (· intro w' hS; obtain ⟨⟨s0, s1, s2, s3, s4, s5⟩, t0, t1, t2, t3, t4, t5⟩ := hS; go_simp; (try (go_ints; try go_simp)); with_reducible rfl); (try simp only [Act.put, List.setIfInBounds_toArray, List.set_cons_zero, List.set_cons_succ])) | (refine bits_skip (by rfl) ?_; (try simp only [Act.put, List.setIfInBounds_toArray, List.set_cons_zero, List.set_cons_succ])))
                      refine bits_nil ?_
                      refine Met.intro ?_
                      go_step
                      go_meet
                      exact ⟨rfl, rfl⟩
                    | false =>
                      cases d3 : (z.w != 1) with
                      | true =>
                        obtain rfl : z = y := (HK.out.1 k1 (.inr (bne_iff_ne.1 d3))).symm
                        refine wp_region_bits_at (S := fun w' => GAt w' bl (off + q * 6) z ∧ GAt w' g (q * 6) z) [(0, true), (1, true), (2, true), (3, true), (4, true), (5, true), (6, true), (7, true), (8, true), (9, true), (10, true), (11, true), (12, true), (13, true), (14, true), (15, true), (16, true), (17, true), (18, true), (19, true), (20, true), (21, true), (22, true), (23, true), (24, true), (25, true), (26, true), (27, true)] [] (by kernel_rfl) (by kernel_rfl) (fun c a d v w h => by cases d <;> exact h) G1.out ?_
                        simp only [bits_, bitOf, List.getElem?_cons_zero, List.getElem?_cons_succ, List.contains_nil]
                        repeat (first | (refine bits_take (v := ?_) (by rfl) ?_ ?_; rotate_left; (· intro w' hS; obtain ⟨⟨s0, s1, s2, s3, s4, s5⟩, t0, t1, t2, t3, t4, t5⟩ := hS; go_simp; (try (go_ints; try go_simp)); with_reducible rfl); (try simp only [Act.put, List.setIfInBounds_toArray, List.set_cons_zero, List.set_cons_succ])) | (refine bits_skip (by rfl) ?_; (try simp only [Act.put, List.setIfInBounds_toArray, List.set_cons_zero, List.set_cons_succ])))
                        refine bits_nil ?_
                        refine Met.intro ?_
                        go_step
                        go_meet
                        exact ⟨rfl, rfl⟩
                      | false =>
                        refine wp_region_bits_at (S := fun w' => GAt w' bl (off + q * 6) z ∧ GAt w' g (q * 6) y) [(0, true), (1, true), (2, true), (3, true), (4, true), (5, true), (6, true), (7, true), (8, true), (9, true), (10, true), (11, true), (12, true), (13, true), (14, true), (15, true), (16, true), (17, true), (18, true), (19, true), (20, true), (21, true), (22, true), (23, true), (24, true), (25, true), (26, true), (27, true)] [] (by kernel_rfl) (by kernel_rfl) (fun c a d v w h => by cases d <;> exact h) G1.out ?_
                        simp only [bits_, bitOf, List.getElem?_cons_zero, List.getElem?_cons_succ, List.contains_nil]
                        repeat (first | (refine bits_take (v := ?_) (by rfl) ?_ ?_; rotate_left; (· intro w' hS; obtain ⟨⟨s0, s1, s2, s3, s4, s5⟩, t0, t1, t2, t3, t4, t5⟩ := hS; go_simp; (try (go_ints; try go_simp)); with_reducible rfl); (try simp only [Act.put, List.setIfInBounds_toArray, List.set_cons_zero, List.set_cons_succ])) | (refine bits_skip (by rfl) ?_; (try simp only [Act.put, List.setIfInBounds_toArray, List.set_cons_zero, List.set_cons_succ])))
                        refine bits_nil ?_
                        refine Met.intro ?_
                        go_step
                        go_meet
                        exact ⟨rfl, rfl⟩
                case rest =>
                  obtain ⟨rfl, rfl⟩ := hcut
                  go_upto_region 14 with fail
                  go_cut [120] (fun v wc => v = .bool false ∧ wc = (w4.drewN m).drew.drew)
                  case first =>
                    cases d4 : decide (T0 ≤ (q : Int)) with
                    | false =>
                      refine wp_region_bits_at (S := fun w' => GAt w' bl (off + q * 6) z ∧ GAt w' g (q * 6) y) [(0, true), (1, true), (2, true), (3, true), (4, true), (5, true), (6, true), (7, true), (8, true), (9, true), (10, true), (11, true), (12, true), (13, true), (14, true), (15, true), (16, true), (17, true), (18, true), (19, true), (20, true), (21, true), (22, true), (23, true), (24, true), (25, true), (26, true)] [] (by kernel_rfl) (by kernel_rfl) (fun c a d v w h => by cases d <;> exact h) G1.out ?_
                      simp only [bits_, bitOf, List.getElem?_cons_zero, List.getElem?_cons_succ, List.contains_nil]
                      repeat (first | (refine bits_take (v := ?_) (by rfl) ?_ ?_; rotate_left; (· intro w' hS; obtain ⟨⟨s0, s1, s2, s3, s4, s5⟩, t0, t1, t2, t3, t4, t5⟩ := hS; go_simp; (try (go_ints; try go_simp)); with_reducible rfl); (try simp only [Act.put, List.setIfInBounds_toArray, List.set_cons_zero, List.set_cons_succ])) | (refine bits_skip (by rfl) ?_; (try simp only [Act.put, List.setIfInBounds_toArray, List.set_cons_zero, List.set_cons_succ])))
                      refine bits_nil ?_
                      refine Met.intro ?_
                      go_step
                      go_meet
                      exact ⟨rfl, rfl⟩
                    | true =>
                      have k4 := of_decide_eq_true d4
                      cases d5 : ((q : Int) != T0) with
                      | true =>
                        obtain rfl : z = y := (HK.out.2 k4 (.inl (bne_iff_ne.1 d5))).symm
                        refine wp_region_bits_at (S := fun w' => GAt w' bl (off + q * 6) z ∧ GAt w' g (q * 6) z) [(0, true), (1, true), (2, true), (3, true), (4, true), (5, true), (6, true), (7, true), (8, true), (9, true), (10, true), (11, true), (12, true), (13, true), (14, true), (15, true), (16, true), (17, true), (18, true), (19, true), (20, true), (21, true), (22, true), (23, true), (24, true), (25, true), (26, true)] [] (by kernel_rfl) (by kernel_rfl) (fun c a d v w h => by cases d <;> exact h) G1.out ?_
                        simp only [bits_, bitOf, List.getElem?_cons_zero, List.getElem?_cons_succ, List.contains_nil]
                        repeat (first | (refine bits_take (v := ?_) (by rfl) ?_ ?_; rotate_left; (· intro w' hS; obtain ⟨⟨s0, s1, s2, s3, s4, s5⟩, t0, t1, t2, t3, t4, t5⟩ := hS; go_simp; (try (go_ints; try go_simp)); with_reducible rfl); (try simp only [Act.put, List.setIfInBounds_toArray, List.set_cons_zero, List.set_cons_succ])) | (refine bits_skip (by rfl) ?_; (try simp only [Act.put, List.setIfInBounds_toArray, List.set_cons_zero, List.set_cons_succ])))
                        refine bits_nil ?_
                        refine Met.intro ?_
                        go_step
                        go_meet
                        exact ⟨rfl, rfl⟩
                      | false =>
                        cases d6 : (z.w != 2) with
                        | true =>
                          obtain rfl : z = y := (HK.out.2 k4 (.inr (bne_iff_ne.1 d6))).symm
                          refine wp_region_bits_at (S := fun w' => GAt w' bl (off + q * 6) z ∧ GAt w' g (q * 6) z) [(0, true), (1, true), (2, true), (3, true), (4, true), (5, true), (6, true), (7, true), (8, true), (9, true), (10, true), (11, true), (12, true), (13, true), (14, true), (15, true), (16, true), (17, true), (18, true), (19, true), (20, true), (21, true), (22, true), (23, true), (24, true), (25, true), (26, true)] [] (by kernel_rfl) (by kernel_rfl) (fun c a d v w h => by cases d <;> exact h) G1.out ?_
                          simp only [bits_, bitOf, List.getElem?_cons_zero, List.getElem?_cons_succ, List.contains_nil]
                          repeat (first | (refine bits_take (v := ?_) (by rfl) ?_ ?_; rotate_left; (· intro w' hS; obtain ⟨⟨s0, s1, s2, s3, s4, s5⟩, t0, t1, t2, t3, t4, t5⟩ := hS; go_simp; (try (go_ints; try go_simp)); with_reducible rfl); (try simp only [Act.put, List.setIfInBounds_toArray, List.set_cons_zero, List.set_cons_succ])) | (refine bits_skip (by rfl) ?_; (try simp only [Act.put, List.setIfInBounds_toArray, List.set_cons_zero, List.set_cons_succ])))
                          refine bits_nil ?_
                          refine Met.intro ?_
                          go_step
                          go_meet
                          exact ⟨rfl, rfl⟩
                        | false =>
                          refine wp_region_bits_at (S := fun w' => GAt w' bl (off + q * 6) z ∧ GAt w' g (q * 6) y) [(0, true), (1, true), (2, true), (3, true), (4, true), (5, true), (6, true), (7, true), (8, true), (9, true), (10, true), (11, true), (12, true), (13, true), (14, true), (15, true), (16, true), (17, true), (18, true), (19, true), (20, true), (21, true), (22, true), (23, true), (24, true), (25, true), (26, true)] [] (by kernel_rfl) (by kernel_rfl) (fun c a d v w h => by cases d <;> exact h) G1.out ?_
                          simp only [bits_, bitOf, List.getElem?_cons_zero, List.getElem?_cons_succ, List.contains_nil]
                          repeat (first | (refine bits_take (v := ?_) (by rfl) ?_ ?_; rotate_left; (· intro w' hS; obtain ⟨⟨s0, s1, s2, s3, s4, s5⟩, t0, t1, t2, t3, t4, t5⟩ := hS; go_simp; (try (go_ints; try go_simp)); with_reducible rfl); (try simp only [Act.put, List.setIfInBounds_toArray, List.set_cons_zero, List.set_cons_succ])) | (refine bits_skip (by rfl) ?_; (try simp only [Act.put, List.setIfInBounds_toArray, List.set_cons_zero, List.set_cons_succ])))
                          refine bits_nil ?_
                          refine Met.intro ?_
                          go_step
                          go_meet
                          exact ⟨rfl, rfl⟩
                  case rest =>
                    obtain ⟨rfl, rfl⟩ := hcut
                    go_wp2_with fail
                    go_roundw
                    case rel => exact ⟨q + 1, m + 2, HQ.out, by go_num, rfl⟩
                    case measure => have := HQ.out; simp [intOf]; omega
              · have hdq : decide (q < xs.length) = false := decide_eq_false hqn
                go_wp2_with fail
                go_ret
                exact ⟨rfl, below_drewN B4.out _⟩

        · have hml : (eraseP xs x n f b).length = xs.length := erase_len HOK.out
          obtain ⟨M, hM⟩ : ∃ M, eraseP xs x n f b = M := ⟨_, rfl⟩
          have HD : Hid (Calls Tryd.prog 29 #[.slice a xs.length c, .agg #[.int .i64 1, .int .i64 x, .int .i64 n, .int .i32 r, .int .u32 f, .int .u32 b, .int .u8 pa, .int .u16 pl]] w2 (GPost M w2)) := by
            rw [← hM]
            exact do_any a xs.length c ⟨1, x, n, r, f, b, pa, pl⟩ (by simp only; omega) xs w2 (HL.out.below B2.out) (HT.out.below B2.out)
          rw [hM] at hml
          have HML := Lib.hid hml
          have HKEEP : Hid (∀ i, i < xs.length → _ ∧ _) := fun i hi => erase_keeps (s := x) (t := n) HOK.out hi
          rw [hM] at HKEEP
          clear hM hml
          go_wp2_with fail
          refine HD.out.mono ?_
          clear HD
          rintro e w3 ⟨v3, rfl, r3, b3⟩
          obtain ⟨ma, mc, hv3, _⟩ := r3.cells
          rw [HML.out] at hv3
          obtain rfl := hv3
          have R3 : Hid (CRow w3 w2.heap.size (.slice ma xs.length mc) M) := r3
          have B3 : Hid (Below w.heap.size w w3) := B2.out.trans (b3.mono B2.out.size)
          have P3 := Lib.hid (P2.out.below b3 hlt2)
          have hlt3 : w.heap.size < w3.heap.size := Nat.lt_of_lt_of_le hlt2 b3.size
          clear r3 b3 e0 e1 e2 e3 e4 e5 e6 e7
          go_wp2_with fail
          refine (fixed_any _ (HT.out.below B3.out)).mono ?_
          rintro e w4 ⟨rfl, b4⟩
          have R4 := Lib.hid (R3.out.below b4)
          have B4 : Hid (Below w.heap.size w w4) := B3.out.trans (b4.mono B3.out.size)
          have P4 := Lib.hid (P3.out.below b4 hlt3)
          have hlt4 : w.heap.size < w4.heap.size := Nat.lt_of_lt_of_le hlt3 b4.size
          clear b4
          have S4 : Hid (XAt w4.drew w.heap.size 1 x n) := ⟨Own.cell P4.out 0, Own.cell P4.out 1, Own.cell P4.out 2⟩
          go_wp2_with fail
          refine wp_region_bits_at (S := fun w' => XAt w' w.heap.size 1 x n) [(0, true), (1, true), (2, true), (3, true), (4, true), (5, true)] [] (by kernel_rfl) (by kernel_rfl) (fun c a d v w h => by cases d <;> exact h) S4.out ?_
          simp only [bits_, bitOf, List.getElem?_cons_zero, List.getElem?_cons_succ, List.contains_nil]
          repeat (first | (refine bits_take (v := ?_) (by rfl) ?_ ?_; rotate_left; (· intro w' hS; obtain ⟨s0, s1, s2⟩ := hS; go_simp; (try (go_ints; try go_simp)); with_reducible rfl); (try simp only [Act.put, List.setIfInBounds_toArray, List.set_cons_zero, List.set_cons_succ])) | (refine bits_skip (by rfl) ?_; (try simp only [Act.put, List.setIfInBounds_toArray, List.set_cons_zero, List.set_cons_succ])))
          refine bits_nil ?_
          obtain ⟨e0, e1, e2⟩ := S4.out
          have hSx : x ≤ 9223372036854775807 := hox
          obtain ⟨S0, rfl⟩ : ∃ S0, S0 = x := ⟨_, rfl⟩
          obtain ⟨T0, rfl⟩ : ∃ T0, T0 = n := ⟨_, rfl⟩
          obtain ⟨g, rfl⟩ := crow_addr R4.out (by omega)
          obtain ⟨bl, off, rfl, hbl, hc⟩ := (HL.out.below B4.out).2.2 (by omega)
          have HC := Lib.hid hc
          clear hc
          go_wp2_with fail
          go_loopw [63] (fun i wr => ∃ (q m : Nat), q ≤ xs.length ∧ i = .int .i64 q ∧ wr = w4.drewN m) (fun i _ => xs.length - (intOf i).toNat)
          case atStart => exact ⟨0, 1, by omega, rfl, rfl⟩
          case round =>
            obtain ⟨q, m, hq, rfl, rfl⟩ := hrel
            by_cases hqn : q < xs.length
            · obtain ⟨z, hz⟩ : ∃ z, at_ xs q = z := ⟨_, rfl⟩
              obtain ⟨y, hy⟩ : ∃ y, at_ M q = y := ⟨_, rfl⟩
              have HK := Lib.hid (HKEEP.out q hqn)
              rw [hz, hy] at HK
              have G1 : Hid (GAt w4.drew bl (off + q * 6) z ∧ GAt w4.drew g (q * 6) y) := ⟨by rw [← hz]; exact HC.out q hqn, by rw [← hy]; exact (crow_at R4.out hqn).1⟩
              clear hz hy
              have hq0 : (0 : Int) ≤ (q : Int) := by omega
              have hq1 : (q : Int) < xs.length := by omega
              have HQ : Hid (q < xs.length) := hqn
              go_upto_region 12 with fail
              go_cut [93] (fun v wc => v = .bool false ∧ wc = (w4.drewN m).drew)
              case first =>
                cases d1 : decide ((q : Int) < S0) with
                | false =>
                  refine wp_region_bits_at (S := fun w' => GAt w' bl (off + q * 6) z ∧ GAt w' g (q * 6) y) [(0, true), (1, true), (2, true), (3, true), (4, true), (5, true), (6, true), (7, true), (8, true), (9, true), (10, true), (11, true), (12, true), (13, true), (14, true), (15, true), (16, true), (17, true), (18, true), (19, true), (20, true), (21, true), (22, true), (23, true), (24, true), (25, true), (26, true), (27, true)] [] (by kernel_rfl) (by kernel_rfl) (fun c a d v w h => by cases d <;> exact h) G1.out ?_
                  simp only [bits_, bitOf, List.getElem?_cons_zero, List.getElem?_cons_succ, List.contains_nil]
                  repeat (first | (refine bits_take (v := ?_) (by rfl) ?_ ?_; rotate_left; (· intro w' hS; obtain ⟨⟨s0, s1, s2, s3, s4, s5⟩, t0, t1, t2, t3, t4, t5⟩ := hS; go_simp; (try (go_ints; try go_simp)); with_reducible rfl); (try simp only [Act.put, List.setIfInBounds_toArray, List.set_cons_zero, List.set_cons_succ])) | (refine bits_skip (by rfl) ?_; (try simp only [Act.put, List.setIfInBounds_toArray, List.set_cons_zero, List.set_cons_succ])))
                  refine bits_nil ?_
                  refine Met.intro ?_
                  go_step
                  go_meet
                  exact ⟨rfl, rfl⟩
                | true =>
                  have k1 := of_decide_eq_true d1
                  cases d2 : ((q : Int) != S0 - 1) with
                  | true =>
                    obtain rfl : z = y := (HK.out.1 k1 (.inl (bne_iff_ne.1 d2))).symm
                    refine wp_region_bits_at (S := fun w' => GAt w' bl (off + q * 6) z ∧ GAt w' g (q * 6) z) [(0, true), (1, true), (2, true), (3, true), (4, true), (5, true), (6, true), (7, true), (8, true), (9, true), (10, true), (11, true), (12, true), (13, true), (14, true), (15, true), (16, true), (17, true), (18, true), (19, true), (20, true), (21, true), (22, true), (23, true), (24, true), (25, true), (26, true), (27, true)] [] (by kernel_rfl) (by kernel_rfl) (fun c a d v w h => by cases d <;> exact h) G1.out ?_
                    simp only [bits_, bitOf, List.getElem?_cons_zero, List.getElem?_cons_succ, List.contains_nil]
                    repeat (first | (refine bits_take (v := ?_) (by rfl) ?_ ?_; rotate_left; (· intro w' hS; obtain ⟨⟨s0, s1, s2, s3, s4, s5⟩, t0, t1, t2, t3, t4, t5⟩ := hS; go_simp; (try (go_ints; try go_simp)); with_reducible rfl); (try simp only [Act.put, List.setIfInBounds_toArray, List.set_cons_zero, List.set_cons_succ])) | (refine bits_skip (by rfl) ?_; (try simp only [Act.put, List.setIfInBounds_toArray, List.set_cons_zero, List.set_cons_succ])))
                    refine bits_nil ?_
                    refine Met.intro ?_
                    go_step
                    go_meet
                    exact ⟨rfl, rfl⟩
                  | false =>
                    cases d3 : (z.w != 1) with
                    | true =>
                      obtain rfl : z = y := (HK.out.1 k1 (.inr (bne_iff_ne.1 d3))).symm
                      refine wp_region_bits_at (S := fun w' => GAt w' bl (off + q * 6) z ∧ GAt w' g (q * 6) z) [(0, true), (1, true), (2, true), (3, true), (4, true), (5, true), (6, true), (7, true), (8, true), (9, true), (10, true), (11, true), (12, true), (13, true), (14, true), (15, true), (16, true), (17, true), (18, true), (19, true), (20, true), (21, true), (22, true), (23, true), (24, true), (25, true), (26, true), (27, true)] [] (by kernel_rfl) (by kernel_rfl) (fun c a d v w h => by cases d <;> exact h) G1.out ?_
                      simp only [bits_, bitOf, List.getElem?_cons_zero, List.getElem?_cons_succ, List.contains_nil]
                      repeat (first | (refine bits_take (v := ?_) (by rfl) ?_ ?_; rotate_left; (· intro w' hS; obtain ⟨⟨s0, s1, s2, s3, s4, s5⟩, t0, t1, t2, t3, t4, t5⟩ := hS; go_simp; (try (go_ints; try go_simp)); with_reducible rfl); (try simp only [Act.put, List.setIfInBounds_toArray, List.set_cons_zero, List.set_cons_succ])) | (refine bits_skip (by rfl) ?_; (try simp only [Act.put, List.setIfInBounds_toArray, List.set_cons_zero, List.set_cons_succ])))
                      refine bits_nil ?_
                      refine Met.intro ?_
                      go_step
                      go_meet
                      exact ⟨rfl, rfl⟩
                    | false =>
                      refine wp_region_bits_at (S := fun w' => GAt w' bl (off + q * 6) z ∧ GAt w' g (q * 6) y) [(0, true), (1, true), (2, true), (3, true), (4, true), (5, true), (6, true), (7, true), (8, true), (9, true), (10, true), (11, true), (12, true), (13, true), (14, true), (15, true), (16, true), (17, true), (18, true), (19, true), (20, true), (21, true), (22, true), (23, true), (24, true), (25, true), (26, true), (27, true)] [] (by kernel_rfl) (by kernel_rfl) (fun c a d v w h => by cases d <;> exact h) G1.out ?_
                      simp only [bits_, bitOf, List.getElem?_cons_zero, List.getElem?_cons_succ, List.contains_nil]
                      repeat (first | (refine bits_take (v := ?_) (by rfl) ?_ ?_; rotate_left; (· intro w' hS; obtain ⟨⟨s0, s1, s2, s3, s4, s5⟩, t0, t1, t2, t3, t4, t5⟩ := hS; go_simp; (try (go_ints; try go_simp)); with_reducible rfl); (try simp only [Act.put, List.setIfInBounds_toArray, List.set_cons_zero, List.set_cons_succ])) | (refine bits_skip (by rfl) ?_; (try simp only [Act.put, List.setIfInBounds_toArray, List.set_cons_zero, List.set_cons_succ])))
                      refine bits_nil ?_
                      refine Met.intro ?_
                      go_step
                      go_meet
                      exact ⟨rfl, rfl⟩
              case rest =>
                obtain ⟨rfl, rfl⟩ := hcut
                go_upto_region 14 with fail
                go_cut [120] (fun v wc => v = .bool false ∧ wc = (w4.drewN m).drew.drew)
                case first =>
                  cases d4 : decide (T0 ≤ (q : Int)) with
                  | false =>
                    refine wp_region_bits_at (S := fun w' => GAt w' bl (off + q * 6) z ∧ GAt w' g (q * 6) y) [(0, true), (1, true), (2, true), (3, true), (4, true), (5, true), (6, true), (7, true), (8, true), (9, true), (10, true), (11, true), (12, true), (13, true), (14, true), (15, true), (16, true), (17, true), (18, true), (19, true), (20, true), (21, true), (22, true), (23, true), (24, true), (25, true), (26, true)] [] (by kernel_rfl) (by kernel_rfl) (fun c a d v w h => by cases d <;> exact h) G1.out ?_
                    simp only [bits_, bitOf, List.getElem?_cons_zero, List.getElem?_cons_succ, List.contains_nil]
                    repeat (first | (refine bits_take (v := ?_) (by rfl) ?_ ?_; rotate_left; (· intro w' hS; obtain ⟨⟨s0, s1, s2, s3, s4, s5⟩, t0, t1, t2, t3, t4, t5⟩ := hS; go_simp; (try (go_ints; try go_simp)); with_reducible rfl); (try simp only [Act.put, List.setIfInBounds_toArray, List.set_cons_zero, List.set_cons_succ])) | (refine bits_skip (by rfl) ?_; (try simp only [Act.put, List.setIfInBounds_toArray, List.set_cons_zero, List.set_cons_succ])))
                    refine bits_nil ?_
                    refine Met.intro ?_
                    go_step
                    go_meet
                    exact ⟨rfl, rfl⟩
                  | true =>
                    have k4 := of_decide_eq_true d4
                    cases d5 : ((q : Int) != T0) with
                    | true =>
                      obtain rfl : z = y := (HK.out.2 k4 (.inl (bne_iff_ne.1 d5))).symm
                      refine wp_region_bits_at (S := fun w' => GAt w' bl (off + q * 6) z ∧ GAt w' g (q * 6) z) [(0, true), (1, true), (2, true), (3, true), (4, true), (5, true), (6, true), (7, true), (8, true), (9, true), (10, true), (11, true), (12, true), (13, true), (14, true), (15, true), (16, true), (17, true), (18, true), (19, true), (20, true), (21, true), (22, true), (23, true), (24, true), (25, true), (26, true)] [] (by kernel_rfl) (by kernel_rfl) (fun c a d v w h => by cases d <;> exact h) G1.out ?_
                      simp only [bits_, bitOf, List.getElem?_cons_zero, List.getElem?_cons_succ, List.contains_nil]
                      repeat (first | (refine bits_take (v := ?_) (by rfl) ?_ ?_; rotate_left; (· intro w' hS; obtain ⟨⟨s0, s1, s2, s3, s4, s5⟩, t0, t1, t2, t3, t4, t5⟩ := hS; go_simp; (try (go_ints; try go_simp)); with_reducible rfl); (try simp only [Act.put, List.setIfInBounds_toArray, List.set_cons_zero, List.set_cons_succ])) | (refine bits_skip (by rfl) ?_; (try simp only [Act.put, List.setIfInBounds_toArray, List.set_cons_zero, List.set_cons_succ])))
                      refine bits_nil ?_
                      refine Met.intro ?_
                      go_step
                      go_meet
                      exact ⟨rfl, rfl⟩
                    | false =>
                      cases d6 : (z.w != 2) with
                      | true =>
                        obtain rfl : z = y := (HK.out.2 k4 (.inr (bne_iff_ne.1 d6))).symm
                        refine wp_region_bits_at (S := fun w' => GAt w' bl (off + q * 6) z ∧ GAt w' g (q * 6) z) [(0, true), (1, true), (2, true), (3, true), (4, true), (5, true), (6, true), (7, true), (8, true), (9, true), (10, true), (11, true), (12, true), (13, true), (14, true), (15, true), (16, true), (17, true), (18, true), (19, true), (20, true), (21, true), (22, true), (23, true), (24, true), (25, true), (26, true)] [] (by kernel_rfl) (by kernel_rfl) (fun c a d v w h => by cases d <;> exact h) G1.out ?_
                        simp only [bits_, bitOf, List.getElem?_cons_zero, List.getElem?_cons_succ, List.contains_nil]
                        repeat (first | (refine bits_take (v := ?_) (by rfl) ?_ ?_; rotate_left; (· intro w' hS; obtain ⟨⟨s0, s1, s2, s3, s4, s5⟩, t0, t1, t2, t3, t4, t5⟩ := hS; go_simp; (try (go_ints; try go_simp)); with_reducible rfl); (try simp only [Act.put, List.setIfInBounds_toArray, List.set_cons_zero, List.set_cons_succ])) | (refine bits_skip (by rfl) ?_; (try simp only [Act.put, List.setIfInBounds_toArray, List.set_cons_zero, List.set_cons_succ])))
                        refine bits_nil ?_
                        refine Met.intro ?_
                        go_step
                        go_meet
                        exact ⟨rfl, rfl⟩
                      | false =>
                        refine wp_region_bits_at (S := fun w' => GAt w' bl (off + q * 6) z ∧ GAt w' g (q * 6) y) [(0, true), (1, true), (2, true), (3, true), (4, true), (5, true), (6, true), (7, true), (8, true), (9, true), (10, true), (11, true), (12, true), (13, true), (14, true), (15, true), (16, true), (17, true), (18, true), (19, true), (20, true), (21, true), (22, true), (23, true), (24, true), (25, true), (26, true)] [] (by kernel_rfl) (by kernel_rfl) (fun c a d v w h => by cases d <;> exact h) G1.out ?_
                        simp only [bits_, bitOf, List.getElem?_cons_zero, List.getElem?_cons_succ, List.contains_nil]
                        repeat (first | (refine bits_take (v := ?_) (by rfl) ?_ ?_; rotate_left; (· intro w' hS; obtain ⟨⟨s0, s1, s2, s3, s4, s5⟩, t0, t1, t2, t3, t4, t5⟩ := hS; go_simp; (try (go_ints; try go_simp)); with_reducible rfl); (try simp only [Act.put, List.setIfInBounds_toArray, List.set_cons_zero, List.set_cons_succ])) | (refine bits_skip (by rfl) ?_; (try simp only [Act.put, List.setIfInBounds_toArray, List.set_cons_zero, List.set_cons_succ])))
                        refine bits_nil ?_
                        refine Met.intro ?_
                        go_step
                        go_meet
                        exact ⟨rfl, rfl⟩
                case rest =>
                  obtain ⟨rfl, rfl⟩ := hcut
                  go_wp2_with fail
                  go_roundw
                  case rel => exact ⟨q + 1, m + 2, HQ.out, by go_num, rfl⟩
                  case measure => have := HQ.out; simp [intOf]; omega
            · have hdq : decide (q < xs.length) = false := decide_eq_false hqn
              go_wp2_with fail
              go_ret
              exact ⟨rfl, below_drewN B4.out _⟩

      · have hkn : (k != 0 && k != 1) = true := Bool.and_eq_true_iff.2 ⟨bne_iff_ne.2 (fun e => hk (.inl e)), bne_iff_ne.2 (fun e => hk (.inr e))⟩
        go_wp2_with fail
        refine (fixed_any _ (HT.out.below B2.out)).mono ?_
        rintro e w3 ⟨rfl, b3⟩
        have B3 : Hid (Below w.heap.size w w3) := B2.out.trans (b3.mono B2.out.size)
        clear b3
        go_wp2_with fail
        go_ret
        exact ⟨rfl, B3.out⟩
end Go.Proofs.YtlhcehealjdbdaaDoor
