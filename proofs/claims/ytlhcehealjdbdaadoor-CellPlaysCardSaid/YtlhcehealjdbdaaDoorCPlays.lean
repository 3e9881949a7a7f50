/- Every row of calls leaves what the document says, and a row that may be: the law's walk. -/
import Derived.Test.YtlhcehealjdbdaaDoorOps8
import Derived.Test.YtlhcehealjdbdaaDoorFixed
import Derived.Deep.DeepCutAuto
namespace Go.Proofs.YtlhcehealjdbdaaDoor
open Go.RowKit
set_option linter.unusedSimpArgs false
set_option linter.unusedVariables false
attribute [local go_sem] alloc_drewN setCell_drewN


def RowV (v : Value) (n : Nat) (xs : List Glyph) (w : World) : Prop := ∃ a c, v = .slice a n c ∧ Cells w a n xs
theorem RowV.cells {a : Option Addr} {n c : Nat} {xs : List Glyph} {w : World} (h : RowV (.slice a n c) n xs w) : Cells w a n xs := by
  obtain ⟨a', c', e, h⟩ := h
  cases e
  exact h
/-- The two rows under way. -/
def CpRel (w : World) (N : Nat) (vl vm : Value) (X : List Glyph) (wr : World) : Prop := RowOk X ∧ X.length = N ∧ RowV vl N X wr ∧ RowV vm N X wr ∧ Below w.heap.size w wr
theorem CpRel.below {w : World} {N : Nat} {vl vm : Value} {X : List Glyph} {w1 w2 : World} (h : CpRel w N vl vm X w1) (k : Below w1.heap.size w1 w2) : CpRel w N vl vm X w2 := by
  obtain ⟨h1, h2, ⟨a, c, e, h3⟩, ⟨a', c', e', h4⟩, h5⟩ := h
  exact ⟨h1, h2, ⟨a, c, e, h3.below k⟩, ⟨a', c', e', h4.below k⟩, h5.trans (k.mono h5.size)⟩
def BlRel (w : World) (g n q : Nat) (wr : World) : Prop := CRow wr w.heap.size (.slice (some ⟨g, 0, none⟩) n n) (fillP (List.replicate n g0) 0 (blank 0) q) ∧ Below w.heap.size w wr
set_option maxRecDepth 10000 in
set_option maxHeartbeats 4000000 in
theorem cellplays_walk (u : Int) (hu : 0 ≤ u ∧ u ≤ 255) (a : Option Addr) (n c : Nat) (os : Nat → Op8) (w : World) (hl : Ops8 w a n os) (ht : Tabs w) : Calls Tryd.prog 6 #[.int .u8 u, .slice a n c] w (RVal (.bool true) w) := by
  have HL := Lib.hid hl
  have HT := Lib.hid ht
  have hn63 := hl.1
  clear hl ht
  obtain ⟨N, hN⟩ : ∃ N : Nat, 1 + u % 80 = N := ⟨(1 + u % 80).toNat, by omega⟩
  have hN1 : 1 ≤ N := by omega
  have hN8 : N ≤ 80 := by omega
  have hu0 := hu.1
  have hu1 := hu.2
  go_enter Tryd.func6, Tryd.ntmps6
  go_wp2_with (first
    | (at_make; refine wpList_make_full _ rfl _ _ 29 rfl w.heap.size 28 _ _ 6 Tryd.underlying29 ginfoE gzeroE (by kernel_rfl) .i64 .i64 _ _ N rfl rfl rfl rfl (by rw [gbytes]; omega) (by unfold maxLen; omega) (Nat.le_refl _) ?_; intro w1 o1 g1; have R1 := Lib.hid (gmake_row o1); have B1 := Lib.hid (gbelow_none g1); clear o1 g1)
    | go_in)
  have HL0 : Hid (BlRel w w.heap.size N 0 w1) := ⟨R1.out, B1.out⟩
  clear R1
  go_loopw [17] (fun v wr => ∃ q : Nat, q ≤ N ∧ v = .int .i64 q ∧ Hid (BlRel w w.heap.size N q wr)) (fun v _ => N - (intOf v).toNat)
  case atStart => exact ⟨0, by omega, rfl, HL0⟩
  case round =>
    obtain ⟨q, hq1, rfl, HR⟩ := hrel
    clear HL0
    by_cases hq : q < N
    · have hi0 : (0 : Int) ≤ (q : Int) := by omega
      have hi1 : (q : Int) < (N : Int) := by omega
      go_wp2_with (first
        | (refine gstore_list rfl _ _ rfl (d := blank 0) rfl rfl HR.out.1 hq ?_; intro wy r5 g5; have HY : Hid (BlRel w w.heap.size N (q + 1) wy) := ⟨by rw [fillP, Nat.zero_add]; exact r5, below_grown HR.out.2 g5 (Nat.le_refl _) HR.out.2.size⟩; clear r5 g5)
        | go_in)
      go_roundw
      case rel => exact ⟨q + 1, by omega, by go_num, HY⟩
      case measure => simp [intOf]; omega
    · obtain rfl : q = N := by omega
      have HC : Hid (CRow wr w.heap.size (.slice (some ⟨w.heap.size, 0, none⟩) q q) (List.replicate q (blank 0))) := by rw [← fillP_all]; exact HR.out.1
      have BR : Hid (Below w.heap.size w wr) := HR.out.2
      have hlen : (List.replicate q (blank 0)).length = q := List.length_replicate
      clear HR hq
      go_wp2_with fail
      refine (gcopy_any _ q q (List.replicate q (blank 0)) _ (cells_of HC.out) (by omega)).mono ?_
      rintro e w2 ⟨v2, rfl, r2, b2⟩
      obtain ⟨ma, mc, rfl, ml⟩ := r2.cells
      rw [hlen] at ml ⊢
      have HX2 : Hid (CpRel w q (.slice (some ⟨w.heap.size, 0, none⟩) q q) (.slice ma q mc) (List.replicate q (blank 0)) w2) := ⟨rowB_ok hN1 hN8, hlen, ⟨_, _, rfl, (cells_of HC.out).below b2⟩, ⟨_, _, rfl, ml⟩, BR.out.trans (b2.mono BR.out.size)⟩
      clear r2 b2 ml HC BR hlen
      go_wp2_with fail
      refine (fixed_any _ (HT.out.below HX2.out.2.2.2.2)).mono ?_
      rintro e w3 ⟨rfl, b3⟩
      have HX3 : Hid (CpRel w q (.slice (some ⟨w.heap.size, 0, none⟩) q q) (.slice ma q mc) (List.replicate q (blank 0)) w3) := HX2.out.below b3
      clear b3 HX2
      obtain ⟨N, rfl⟩ : ∃ N, N = q := ⟨_, rfl⟩
      go_wp2_with fail
      go_loopw [5, 7, 31] (fun vl vm v wr => ∃ q : Nat, q ≤ n ∧ v = .int .i64 q ∧ ∃ X, Hid (CpRel w N vl vm X wr)) (fun _ _ v _ => n - (intOf v).toNat)
      case atStart => exact ⟨0, by omega, rfl, _, HX3⟩
      case round =>
        obtain ⟨q, hq1, rfl, X, HR⟩ := hrel
        clear HX3
        by_cases hq : q < n
        · have hi0 : (0 : Int) ≤ (q : Int) := by omega
          have hi1 : (q : Int) < (n : Int) := by omega
          have hdq : decide (q < n) = true := decide_eq_true hq
          have HQ : Hid (q < n) := hq
          obtain ⟨_, _, ⟨la, lc, rfl, _⟩, ⟨ma, mc, rfl, _⟩, _⟩ := HR.out
          obtain ⟨bl, off, rfl, hbl, hcc⟩ := (HL.out.below HR.out.2.2.2.2).2 (by omega)
          obtain ⟨o, ho⟩ : ∃ o, os q = o := ⟨_, rfl⟩
          have HO := Lib.hid (hcc q hq)
          rw [ho] at HO
          clear ho hcc
          obtain ⟨k, x, m, r, f, b, pa, pl⟩ := o
          obtain ⟨e0, e1, e2, e3, e4, e5, e6, e7⟩ := HO.out
          have hown := Own.new wr 43 #[.int .i64 0, .int .i64 0, .int .i64 0, .int .i32 0, .int .u32 0, .int .u32 0, .int .u8 0, .int .u16 0]
          go_upto_region 13 with (first
            | (refine ostore_list rfl _ _ rfl (d := ⟨k, x, m, r, f, b, pa, pl⟩) rfl rfl hown ?_; intro w4 o4 g4; have hba := below_grown ((Below.refl wr.heap.size wr).alloc (Nat.le_refl _) _) g4 (Nat.le_refl _) (by simp); have X4 : Hid (CpRel w N (.slice la N lc) (.slice ma N mc) X w4) := HR.out.below hba; have P4 : Hid (Own w4 wr.heap.size 43 #[.int .i64 k, .int .i64 x, .int .i64 m, .int .i32 r, .int .u32 f, .int .u32 b, .int .u8 pa, .int .u16 pl]) := o4; have hz4 : wr.heap.size < w4.heap.size := o4.lt; clear o4 g4 hba)
            | go_in)
          (try simp only [Act.put])
          clear e0 e1 e2 e3 e4 e5 e6 e7 hown HO HR
          cases h200 : decide ((200 : Int) < q) with
          | true =>
            go_wp2_with fail
            go_ret
            exact ⟨rfl, X4.out.2.2.2.2⟩
          | false =>
            obtain ⟨pb, hpb⟩ : ∃ pb, penMay f b = pb := ⟨_, rfl⟩
            have HPB := Lib.hid hpb
            clear hpb
            have e0 := Own.cell P4.out 0
            have e1 := Own.cell P4.out 1
            have e2 := Own.cell P4.out 2
            have e3 := Own.cell P4.out 3
            have e4 := Own.cell P4.out 4
            have e5 := Own.cell P4.out 5
            have e6 := Own.cell P4.out 6
            have e7 := Own.cell P4.out 7
            simp only [List.getElem?_toArray, List.getElem?_cons_zero, List.getElem?_cons_succ] at e0 e1 e2 e3 e4 e5 e6 e7
            go_wp2_with fail
            refine (RVal.as (ref_pen_any f b pa pl _) (congrArg Value.bool HPB.out)).mono ?_
            rintro e w5 ⟨rfl, b5⟩
            have X5 : Hid (CpRel w N (.slice la N lc) (.slice ma N mc) X w5) := X4.out.below b5
            have P5 := Lib.hid (P4.out.below b5 hz4)
            have hz5 : wr.heap.size < w5.heap.size := Nat.lt_of_lt_of_le hz4 b5.size
            clear b5 e0 e1 e2 e3 e4 e5 e6 e7
            have e0 := Own.cell P5.out 0
            have e1 := Own.cell P5.out 1
            have e2 := Own.cell P5.out 2
            have e3 := Own.cell P5.out 3
            have e4 := Own.cell P5.out 4
            have e5 := Own.cell P5.out 5
            have e6 := Own.cell P5.out 6
            have e7 := Own.cell P5.out 7
            simp only [List.getElem?_toArray, List.getElem?_cons_zero, List.getElem?_cons_succ] at e0 e1 e2 e3 e4 e5 e6 e7
            cases pb with
            | false =>
              cases hk0 : decide ((0 : Int) ≤ k) with
              | false =>
                go_wp2_with fail
                go_roundw
                case rel => exact ⟨q + 1, HQ.out, by go_num, _, X5⟩
                case measure => have := HQ.out; simp [intOf]; omega
              | true =>
                cases hk3 : decide (k ≤ 3) with
                | false =>
                  go_wp2_with fail
                  go_roundw
                  case rel => exact ⟨q + 1, HQ.out, by go_num, _, X5⟩
                  case measure => have := HQ.out; simp [intOf]; omega
                | true =>
                  have hkk : 0 ≤ k ∧ k ≤ 3 := ⟨of_decide_eq_true hk0, of_decide_eq_true hk3⟩
                  go_wp2_with fail
                  refine (do_any la N lc ⟨k, x, m, r, f, b, pa, pl⟩ hkk X _ X5.out.2.2.1.cells (HT.out.below X5.out.2.2.2.2)).mono ?_
                  rw [doP_no (o := ⟨k, x, m, r, f, b, pa, pl⟩) hkk HPB.out]
                  rintro e w6 ⟨v6, rfl, r6, b6⟩
                  obtain ⟨ya, yc, rfl, _⟩ := r6.cells
                  have X6 : Hid (CpRel w N (.slice la N lc) (.slice ma N mc) X w6) := X5.out.below b6
                  clear r6 b6
                  simp only [List.length_nil]
                  go_wp2_with fail
                  go_roundw
                  case rel => exact ⟨q + 1, HQ.out, by go_num, _, X6⟩
                  case measure => have := HQ.out; simp [intOf]; omega
            | true =>
              have S4 : Hid (w5.drew.cell? ⟨wr.heap.size, 0, none⟩ = some (.int .i64 k) ∧ w5.drew.cell? ⟨wr.heap.size, 1, none⟩ = some (.int .i64 x) ∧ w5.drew.cell? ⟨wr.heap.size, 2, none⟩ = some (.int .i64 m) ∧ w5.drew.cell? ⟨wr.heap.size, 3, none⟩ = some (.int .i32 r) ∧ w5.drew.cell? ⟨wr.heap.size, 4, none⟩ = some (.int .u32 f) ∧ w5.drew.cell? ⟨wr.heap.size, 5, none⟩ = some (.int .u32 b) ∧ w5.drew.cell? ⟨wr.heap.size, 6, none⟩ = some (.int .u8 pa) ∧ w5.drew.cell? ⟨wr.heap.size, 7, none⟩ = some (.int .u16 pl)) := ⟨e0, e1, e2, e3, e4, e5, e6, e7⟩
              have hS4 : wr.heap.size < w5.drew.heap.size := hz5
              obtain ⟨w4', hw4'⟩ : ∃ w4', w4' = w5 := ⟨_, rfl⟩
              subst hw4'
              have X4 := X5
              clear e0 e1 e2 e3 e4 e5 e6 e7
              by_cases hk : 0 ≤ k ∧ k ≤ 3
              · have hkk := hk
                clear hk
                obtain ⟨Y, hY⟩ : ∃ Y, doP X ⟨k, x, m, r, f, b, pa, pl⟩ = Y := ⟨_, rfl⟩
                have HY := Lib.hid hY
                have YOK : Hid (RowOk Y) := by rw [← hY]; exact doP_row X4.out.1 HPB.out
                have YLEN : Hid (Y.length = N) := by rw [← hY]; exact (doP_same X4.out.1 HPB.out).trans X4.out.2.1
                clear hY
                go_wp2_with fail
                refine wp_region_bits_at (S := fun w' => w'.cell? ⟨wr.heap.size, 0, none⟩ = some (.int .i64 k) ∧ w'.cell? ⟨wr.heap.size, 1, none⟩ = some (.int .i64 x) ∧ w'.cell? ⟨wr.heap.size, 2, none⟩ = some (.int .i64 m) ∧ w'.cell? ⟨wr.heap.size, 3, none⟩ = some (.int .i32 r) ∧ w'.cell? ⟨wr.heap.size, 4, none⟩ = some (.int .u32 f) ∧ w'.cell? ⟨wr.heap.size, 5, none⟩ = some (.int .u32 b) ∧ w'.cell? ⟨wr.heap.size, 6, none⟩ = some (.int .u8 pa) ∧ w'.cell? ⟨wr.heap.size, 7, none⟩ = some (.int .u16 pl)) [(0, true), (1, true), (3, true), (4, true), (2, false), (5, false), (6, true), (7, true)] [] (by kernel_rfl) (by kernel_rfl) (fun c a d v w h => by cases d <;> exact h) S4.out ?_
                simp only [bits_, bitOf, List.getElem?_cons_zero, List.getElem?_cons_succ, List.contains_nil]
                repeat (first | (refine bits_take (v := ?_) (by rfl) ?_ ?_; rotate_left; (· intro w' hS; obtain ⟨s0, s1, s2, s3, s4, s5, s6, s7⟩ := hS; go_simp; (try (go_ints; try go_simp)); with_reducible rfl); (try simp only [Act.put, List.setIfInBounds_toArray, List.set_cons_zero, List.set_cons_succ])) | (refine bits_skip (by rfl) ?_; (try simp only [Act.put, List.setIfInBounds_toArray, List.set_cons_zero, List.set_cons_succ])))
                refine bits_eff (by rfl) (fun K hK => ?_)
                go_simp
                (try go_ints)
                refine (do_any la N lc ⟨k, x, m, r, f, b, pa, pl⟩ hkk X _ (X4.out.2.2.1.cells.below (below_drewN (Below.refl _ _) 1)) (HT.out.below (below_drewN X4.out.2.2.2.2 1))).mono ?_
                rw [HY.out]
                rintro e w5 ⟨v5, rfl, r5, b5⟩
                obtain ⟨ya, yc, rfl, yl⟩ := r5.cells
                rw [YLEN.out] at yl
                have XL5 := Lib.hid yl
                have XM5 : Hid (Cells w5 ma N X) := X4.out.2.2.2.1.cells.below ((below_drewN (Below.refl _ _) 1).trans b5)
                have XB5 : Hid (Below w.heap.size w w5) := (below_drewN X4.out.2.2.2.2 1).trans (b5.mono X4.out.2.2.2.2.size)
                have S5 : Hid (w5.cell? ⟨wr.heap.size, 0, none⟩ = some (.int .i64 k) ∧ w5.cell? ⟨wr.heap.size, 1, none⟩ = some (.int .i64 x) ∧ w5.cell? ⟨wr.heap.size, 2, none⟩ = some (.int .i64 m) ∧ w5.cell? ⟨wr.heap.size, 3, none⟩ = some (.int .i32 r) ∧ w5.cell? ⟨wr.heap.size, 4, none⟩ = some (.int .u32 f) ∧ w5.cell? ⟨wr.heap.size, 5, none⟩ = some (.int .u32 b) ∧ w5.cell? ⟨wr.heap.size, 6, none⟩ = some (.int .u8 pa) ∧ w5.cell? ⟨wr.heap.size, 7, none⟩ = some (.int .u16 pl)) := ⟨(b5.cell hS4).trans S4.out.1, (b5.cell hS4).trans S4.out.2.1, (b5.cell hS4).trans S4.out.2.2.1, (b5.cell hS4).trans S4.out.2.2.2.1, (b5.cell hS4).trans S4.out.2.2.2.2.1, (b5.cell hS4).trans S4.out.2.2.2.2.2.1, (b5.cell hS4).trans S4.out.2.2.2.2.2.2.1, (b5.cell hS4).trans S4.out.2.2.2.2.2.2.2⟩
                have hS5 : wr.heap.size < w5.heap.size := Nat.lt_of_lt_of_le hS4 b5.size
                clear r5 b5 yl
                refine hK _ _ ?_ ?_
                · exact S5.out
                clear hK K
                (try simp only [Act.put, List.setIfInBounds_toArray, List.set_cons_zero, List.set_cons_succ])
                repeat (first | (refine bits_take (v := ?_) (by rfl) ?_ ?_; rotate_left; (· intro w' hS; obtain ⟨s0, s1, s2, s3, s4, s5, s6, s7⟩ := hS; go_simp; (try (go_ints; try go_simp)); with_reducible rfl); (try simp only [Act.put, List.setIfInBounds_toArray, List.set_cons_zero, List.set_cons_succ])) | (refine bits_skip (by rfl) ?_; (try simp only [Act.put, List.setIfInBounds_toArray, List.set_cons_zero, List.set_cons_succ])))
                refine bits_eff (by rfl) (fun K hK => ?_)
                go_simp
                (try go_ints)
                refine (want_any ma N mc ⟨k, x, m, r, f, b, pa, pl⟩ hkk X _ XM5.out).mono ?_
                rw [HY.out]
                rintro e w6 ⟨v6, rfl, r6, b6⟩
                obtain ⟨za, zc, rfl, zl⟩ := r6.cells
                rw [YLEN.out] at zl
                have XM6 := Lib.hid zl
                have XL6 : Hid (Cells w6 ya N Y) := XL5.out.below b6
                have XB6 : Hid (Below w.heap.size w w6) := XB5.out.trans (b6.mono XB5.out.size)
                have S6 : Hid (w6.cell? ⟨wr.heap.size, 0, none⟩ = some (.int .i64 k) ∧ w6.cell? ⟨wr.heap.size, 1, none⟩ = some (.int .i64 x) ∧ w6.cell? ⟨wr.heap.size, 2, none⟩ = some (.int .i64 m) ∧ w6.cell? ⟨wr.heap.size, 3, none⟩ = some (.int .i32 r) ∧ w6.cell? ⟨wr.heap.size, 4, none⟩ = some (.int .u32 f) ∧ w6.cell? ⟨wr.heap.size, 5, none⟩ = some (.int .u32 b) ∧ w6.cell? ⟨wr.heap.size, 6, none⟩ = some (.int .u8 pa) ∧ w6.cell? ⟨wr.heap.size, 7, none⟩ = some (.int .u16 pl)) := ⟨(b6.cell hS5).trans S5.out.1, (b6.cell hS5).trans S5.out.2.1, (b6.cell hS5).trans S5.out.2.2.1, (b6.cell hS5).trans S5.out.2.2.2.1, (b6.cell hS5).trans S5.out.2.2.2.2.1, (b6.cell hS5).trans S5.out.2.2.2.2.2.1, (b6.cell hS5).trans S5.out.2.2.2.2.2.2.1, (b6.cell hS5).trans S5.out.2.2.2.2.2.2.2⟩
                clear r6 b6 zl
                refine hK _ _ ?_ ?_
                · exact S6.out
                clear hK K
                (try simp only [Act.put, List.setIfInBounds_toArray, List.set_cons_zero, List.set_cons_succ])
                repeat (first | (refine bits_take (v := ?_) (by rfl) ?_ ?_; rotate_left; (· intro w' hS; obtain ⟨s0, s1, s2, s3, s4, s5, s6, s7⟩ := hS; go_simp; (try (go_ints; try go_simp)); with_reducible rfl); (try simp only [Act.put, List.setIfInBounds_toArray, List.set_cons_zero, List.set_cons_succ])) | (refine bits_skip (by rfl) ?_; (try simp only [Act.put, List.setIfInBounds_toArray, List.set_cons_zero, List.set_cons_succ])))
                refine bits_nil ?_
                rw [YLEN.out]
                go_wp2_with fail
                refine (gsame_any ya za N yc N zc Y Y _ XL6.out XM6.out).mono ?_
                rintro e w7 ⟨he7, q7, hq7⟩
                obtain rfl : e = .returned (.bool true) := by rw [he7, decide_eq_true rfl]
                have b7 : Below w6.heap.size w6 w7 := by rw [← hq7]; exact below_drewN (Below.refl _ _) q7
                have X7 : Hid (CpRel w N (.slice ya N yc) (.slice za N zc) Y w7) := (show CpRel w N (.slice ya N yc) (.slice za N zc) Y w6 from ⟨YOK.out, YLEN.out, ⟨ya, yc, rfl, XL6.out⟩, ⟨za, zc, rfl, XM6.out⟩, XB6.out⟩).below b7
                clear he7 hq7 b7
                obtain ⟨_, _, ⟨_, _, hh, XL7⟩, _, XB7⟩ := X7.out
                cases hh
                have XL7' := Lib.hid XL7
                have XB7' := Lib.hid XB7
                clear XL7 XB7
                go_wp2_with fail
                refine (RVal.as (row_any ya N yc Y _ XL7'.out (HT.out.below XB7'.out)) (congrArg Value.bool (row_yes YOK.out))).mono ?_
                rintro e w8 ⟨rfl, b8⟩
                have X8 : Hid (CpRel w N (.slice ya N yc) (.slice za N zc) Y w8) := X7.out.below b8
                clear b8
                go_wp2_with fail
                go_roundw
                case rel => exact ⟨q + 1, HQ.out, by go_num, _, X8⟩
                case measure => have := HQ.out; simp [intOf]; omega
              · have hkk : k < 0 ∨ 3 < k := by omega
                have YOK : Hid (RowOk X) := X4.out.1
                have YLEN : Hid (X.length = N) := X4.out.2.1
                clear hk
                go_wp2_with fail
                refine wp_region_bits_at (S := fun w' => w'.cell? ⟨wr.heap.size, 0, none⟩ = some (.int .i64 k) ∧ w'.cell? ⟨wr.heap.size, 1, none⟩ = some (.int .i64 x) ∧ w'.cell? ⟨wr.heap.size, 2, none⟩ = some (.int .i64 m) ∧ w'.cell? ⟨wr.heap.size, 3, none⟩ = some (.int .i32 r) ∧ w'.cell? ⟨wr.heap.size, 4, none⟩ = some (.int .u32 f) ∧ w'.cell? ⟨wr.heap.size, 5, none⟩ = some (.int .u32 b) ∧ w'.cell? ⟨wr.heap.size, 6, none⟩ = some (.int .u8 pa) ∧ w'.cell? ⟨wr.heap.size, 7, none⟩ = some (.int .u16 pl)) [(0, true), (1, true), (3, true), (4, true), (2, false), (5, false), (6, true), (7, true)] [] (by kernel_rfl) (by kernel_rfl) (fun c a d v w h => by cases d <;> exact h) S4.out ?_
                simp only [bits_, bitOf, List.getElem?_cons_zero, List.getElem?_cons_succ, List.contains_nil]
                repeat (first | (refine bits_take (v := ?_) (by rfl) ?_ ?_; rotate_left; (· intro w' hS; obtain ⟨s0, s1, s2, s3, s4, s5, s6, s7⟩ := hS; go_simp; (try (go_ints; try go_simp)); with_reducible rfl); (try simp only [Act.put, List.setIfInBounds_toArray, List.set_cons_zero, List.set_cons_succ])) | (refine bits_skip (by rfl) ?_; (try simp only [Act.put, List.setIfInBounds_toArray, List.set_cons_zero, List.set_cons_succ])))
                refine bits_eff (by rfl) (fun K hK => ?_)
                go_simp
                (try go_ints)
                refine (do_else la N lc ⟨k, x, m, r, f, b, pa, pl⟩ hkk _).mono ?_
                rintro e w5 ⟨rfl, b5⟩
                have XL5 : Hid (Cells w5 la N X) := X4.out.2.2.1.cells.below ((below_drewN (Below.refl _ _) 1).trans b5)
                have XM5 : Hid (Cells w5 ma N X) := X4.out.2.2.2.1.cells.below ((below_drewN (Below.refl _ _) 1).trans b5)
                have XB5 : Hid (Below w.heap.size w w5) := (below_drewN X4.out.2.2.2.2 1).trans (b5.mono X4.out.2.2.2.2.size)
                have S5 : Hid (w5.cell? ⟨wr.heap.size, 0, none⟩ = some (.int .i64 k) ∧ w5.cell? ⟨wr.heap.size, 1, none⟩ = some (.int .i64 x) ∧ w5.cell? ⟨wr.heap.size, 2, none⟩ = some (.int .i64 m) ∧ w5.cell? ⟨wr.heap.size, 3, none⟩ = some (.int .i32 r) ∧ w5.cell? ⟨wr.heap.size, 4, none⟩ = some (.int .u32 f) ∧ w5.cell? ⟨wr.heap.size, 5, none⟩ = some (.int .u32 b) ∧ w5.cell? ⟨wr.heap.size, 6, none⟩ = some (.int .u8 pa) ∧ w5.cell? ⟨wr.heap.size, 7, none⟩ = some (.int .u16 pl)) := ⟨(b5.cell hS4).trans S4.out.1, (b5.cell hS4).trans S4.out.2.1, (b5.cell hS4).trans S4.out.2.2.1, (b5.cell hS4).trans S4.out.2.2.2.1, (b5.cell hS4).trans S4.out.2.2.2.2.1, (b5.cell hS4).trans S4.out.2.2.2.2.2.1, (b5.cell hS4).trans S4.out.2.2.2.2.2.2.1, (b5.cell hS4).trans S4.out.2.2.2.2.2.2.2⟩
                have hS5 : wr.heap.size < w5.heap.size := Nat.lt_of_lt_of_le hS4 b5.size
                clear b5
                refine hK _ _ ?_ ?_
                · exact S5.out
                clear hK K
                (try simp only [Act.put, List.setIfInBounds_toArray, List.set_cons_zero, List.set_cons_succ])
                repeat (first | (refine bits_take (v := ?_) (by rfl) ?_ ?_; rotate_left; (· intro w' hS; obtain ⟨s0, s1, s2, s3, s4, s5, s6, s7⟩ := hS; go_simp; (try (go_ints; try go_simp)); with_reducible rfl); (try simp only [Act.put, List.setIfInBounds_toArray, List.set_cons_zero, List.set_cons_succ])) | (refine bits_skip (by rfl) ?_; (try simp only [Act.put, List.setIfInBounds_toArray, List.set_cons_zero, List.set_cons_succ])))
                refine bits_eff (by rfl) (fun K hK => ?_)
                go_simp
                (try go_ints)
                refine (want_else ma N mc ⟨k, x, m, r, f, b, pa, pl⟩ hkk _).mono ?_
                rintro e w6 ⟨rfl, b6⟩
                have XL6 : Hid (Cells w6 la N X) := XL5.out.below b6
                have XM6 : Hid (Cells w6 ma N X) := XM5.out.below b6
                have XB6 : Hid (Below w.heap.size w w6) := XB5.out.trans (b6.mono XB5.out.size)
                have S6 : Hid (w6.cell? ⟨wr.heap.size, 0, none⟩ = some (.int .i64 k) ∧ w6.cell? ⟨wr.heap.size, 1, none⟩ = some (.int .i64 x) ∧ w6.cell? ⟨wr.heap.size, 2, none⟩ = some (.int .i64 m) ∧ w6.cell? ⟨wr.heap.size, 3, none⟩ = some (.int .i32 r) ∧ w6.cell? ⟨wr.heap.size, 4, none⟩ = some (.int .u32 f) ∧ w6.cell? ⟨wr.heap.size, 5, none⟩ = some (.int .u32 b) ∧ w6.cell? ⟨wr.heap.size, 6, none⟩ = some (.int .u8 pa) ∧ w6.cell? ⟨wr.heap.size, 7, none⟩ = some (.int .u16 pl)) := ⟨(b6.cell hS5).trans S5.out.1, (b6.cell hS5).trans S5.out.2.1, (b6.cell hS5).trans S5.out.2.2.1, (b6.cell hS5).trans S5.out.2.2.2.1, (b6.cell hS5).trans S5.out.2.2.2.2.1, (b6.cell hS5).trans S5.out.2.2.2.2.2.1, (b6.cell hS5).trans S5.out.2.2.2.2.2.2.1, (b6.cell hS5).trans S5.out.2.2.2.2.2.2.2⟩
                clear b6
                refine hK _ _ ?_ ?_
                · exact S6.out
                clear hK K
                (try simp only [Act.put, List.setIfInBounds_toArray, List.set_cons_zero, List.set_cons_succ])
                repeat (first | (refine bits_take (v := ?_) (by rfl) ?_ ?_; rotate_left; (· intro w' hS; obtain ⟨s0, s1, s2, s3, s4, s5, s6, s7⟩ := hS; go_simp; (try (go_ints; try go_simp)); with_reducible rfl); (try simp only [Act.put, List.setIfInBounds_toArray, List.set_cons_zero, List.set_cons_succ])) | (refine bits_skip (by rfl) ?_; (try simp only [Act.put, List.setIfInBounds_toArray, List.set_cons_zero, List.set_cons_succ])))
                refine bits_nil ?_
                go_wp2_with fail
                refine (gsame_any la ma N lc N mc X X _ XL6.out XM6.out).mono ?_
                rintro e w7 ⟨he7, q7, hq7⟩
                obtain rfl : e = .returned (.bool true) := by rw [he7, decide_eq_true rfl]
                have b7 : Below w6.heap.size w6 w7 := by rw [← hq7]; exact below_drewN (Below.refl _ _) q7
                have X7 : Hid (CpRel w N (.slice la N lc) (.slice ma N mc) X w7) := (show CpRel w N (.slice la N lc) (.slice ma N mc) X w6 from ⟨YOK.out, YLEN.out, ⟨la, lc, rfl, XL6.out⟩, ⟨ma, mc, rfl, XM6.out⟩, XB6.out⟩).below b7
                clear he7 hq7 b7
                obtain ⟨_, _, ⟨_, _, hh, XL7⟩, _, XB7⟩ := X7.out
                cases hh
                have XL7' := Lib.hid XL7
                have XB7' := Lib.hid XB7
                clear XL7 XB7
                go_wp2_with fail
                refine (RVal.as (row_any la N lc X _ XL7'.out (HT.out.below XB7'.out)) (congrArg Value.bool (row_yes YOK.out))).mono ?_
                rintro e w8 ⟨rfl, b8⟩
                have X8 : Hid (CpRel w N (.slice la N lc) (.slice ma N mc) X w8) := X7.out.below b8
                clear b8
                go_wp2_with fail
                go_roundw
                case rel => exact ⟨q + 1, HQ.out, by go_num, _, X8⟩
                case measure => have := HQ.out; simp [intOf]; omega
        · have hdq : decide (q < n) = false := decide_eq_false hq
          go_wp2_with fail
          go_ret
          exact ⟨rfl, HR.out.2.2.2.2⟩
end Go.Proofs.YtlhcehealjdbdaaDoor
