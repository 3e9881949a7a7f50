/- A rune put at a place, as the document says. -/
import Derived.Test.YtlhcehealjdbdaaDoorPBound
import Derived.Test.YtlhcehealjdbdaaDoorMend
import Derived.Deep.DeepCutAuto
namespace Go.Proofs.YtlhcehealjdbdaaDoor
open Go.RowKit
set_option linter.unusedSimpArgs false
set_option linter.unusedVariables false
attribute [local go_sem] alloc_drewN setCell_drewN

set_option maxRecDepth 10000 in
set_option maxHeartbeats 4000000 in
theorem ref_put_any (a : Option Addr) (n c : Nat) (x r f b d l : Int) (xs : List Glyph) (w : World) (hl : Cells w a n xs) : Calls Tryd.prog 51 #[.slice a n c, .int .i64 x, .int .i32 r, .agg #[.int .u32 f, .int .u32 b, .int .u8 d, .int .u16 l]] w (GPost (putW xs x r f b d l) w) := by
  obtain rfl := hl.1
  have HL := Lib.hid hl
  clear hl
  obtain ⟨rb, hrb⟩ : ∃ rb, rowMay xs = rb := ⟨_, rfl⟩
  obtain ⟨pb, hpb⟩ : ∃ pb, penMay f b = pb := ⟨_, rfl⟩
  have HRB := Lib.hid hrb
  have HPB := Lib.hid hpb
  have HNO : Hid ((rb && pb) = false → putW xs x r f b d l = []) := fun h => by unfold putW; rw [hrb, hpb, h]; rfl
  clear hrb hpb
  have B0 : Hid (Below w.heap.size w (w.alloc (.cells #[.int .u32 f, .int .u32 b, .int .u8 d, .int .u16 l] 26))) := (Below.refl _ _).alloc (Nat.le_refl _) _
  have P0 : Hid (Own (w.alloc (.cells #[.int .u32 f, .int .u32 b, .int .u8 d, .int .u16 l] 26)) w.heap.size 26 #[.int .u32 f, .int .u32 b, .int .u8 d, .int .u16 l]) := Own.new w 26 _
  have hz0 : w.heap.size < (w.alloc (.cells #[.int .u32 f, .int .u32 b, .int .u8 d, .int .u16 l] 26)).heap.size := by simp
  go_enter Tryd.func51, Tryd.ntmps51
  go_wp2_with fail
  refine (RVal.as (ref_row_any a xs.length c xs _ (HL.out.below B0.out)) (congrArg Value.bool HRB.out)).mono ?_
  generalize w.alloc (.cells #[.int .u32 f, .int .u32 b, .int .u8 d, .int .u16 l] 26) = w0 at B0 P0 hz0 ⊢
  rintro e w1 ⟨rfl, b1⟩
  have B1 : Hid (Below w.heap.size w w1) := B0.out.trans (b1.mono B0.out.size)
  have P1 := Lib.hid (P0.out.below b1 hz0)
  have hz1 : w.heap.size < w1.heap.size := Nat.lt_of_lt_of_le hz0 b1.size
  clear b1
  have e0 := Own.cell P1.out 0
  have e1 := Own.cell P1.out 1
  have e2 := Own.cell P1.out 2
  have e3 := Own.cell P1.out 3
  simp only [List.getElem?_toArray, List.getElem?_cons_zero, List.getElem?_cons_succ] at e0 e1 e2 e3
  cases rb with
  | false =>
    have HF := Lib.hid (HNO.out rfl)
    go_wp2_with fail
    go_ret
    exact ⟨_, rfl, by rw [HF.out]; exact CRow.nil _ _, B1.out⟩
  | true =>
    go_wp2_with fail
    refine (RVal.as (ref_pen_any f b d l _) (congrArg Value.bool HPB.out)).mono ?_
    rintro e w2 ⟨rfl, b2⟩
    have B2 : Hid (Below w.heap.size w w2) := B1.out.trans (b2.mono B1.out.size)
    have P2 := Lib.hid (P1.out.below b2 hz1)
    have hz2 : w.heap.size < w2.heap.size := Nat.lt_of_lt_of_le hz1 b2.size
    clear b2 e0 e1 e2 e3
    cases pb with
    | false =>
      have HF := Lib.hid (HNO.out rfl)
      go_wp2_with fail
      go_ret
      exact ⟨_, rfl, by rw [HF.out]; exact CRow.nil _ _, B2.out⟩
    | true =>
      have hn8 := (row_iff.1 HRB.out).2.1
      have hn1 := (row_iff.1 HRB.out).1
      have HOK : Hid ((rowMay xs && penMay f b) = true) := by rw [HRB.out, HPB.out]; rfl
      clear HNO B0 P0 hz0 B1 P1 hz1
      obtain ⟨wd, hwd⟩ : ∃ wd, width r = wd := ⟨_, rfl⟩
      have hwo := width_or r
      rw [hwd] at hwo
      have HWD := Lib.hid hwd
      clear hwd
      go_wp2_with fail
      refine (ref_width_any r _).mono ?_
      rintro e w2' ⟨rfl, rfl⟩
      rw [HWD.out]
      go_wp2_with fail
      refine (pieces_any _ xs.length c xs _ (HL.out.below B2.out) hn1 hn8).mono ?_
      rintro e w3 ⟨v3, rfl, r3, b3⟩
      obtain ⟨pa, pc, rfl⟩ := prow_form r3
      rw [pieces_len] at r3 ⊢
      obtain ⟨g, rfl⟩ := prow_addr r3 (by omega)
      have R3 : Hid (PRow w3 w2.heap.size (.slice (some ⟨g, 0, none⟩) xs.length pc) (piecesP xs)) := r3
      have B3 : Hid (Below w.heap.size w w3) := B2.out.trans (b3.mono B2.out.size)
      have P3 := Lib.hid (P2.out.below b3 hz2)
      have hz3 : w.heap.size < w3.heap.size := Nat.lt_of_lt_of_le hz2 b3.size
      have hbg : w2.heap.size ≤ g := (prow_at R3.out (k := 0) (by omega)).2.1
      have hgw : g < w3.heap.size := (prow_at R3.out (k := 0) (by omega)).2.2.2
      have hne : some w.heap.size ≠ some g := fun e => by injection e with e; omega
      have hpcn : xs.length ≤ pc := (prow_own R3.out).choose_spec.2.2
      clear r3 b3
      have HS : Hid (PRow w3 w2.heap.size (.slice (some ⟨g, 0, none⟩) xs.length pc) (piecesP xs) ∧ Own w3 w.heap.size 26 #[.int .u32 f, .int .u32 b, .int .u8 d, .int .u16 l] ∧ Below w.heap.size w w3) := ⟨R3.out, P3.out, B3.out⟩
      clear R3 B3
      have e0 := Own.cell P3.out 0
      have e1 := Own.cell P3.out 1
      have e2 := Own.cell P3.out 2
      have e3 := Own.cell P3.out 3
      simp only [List.getElem?_toArray, List.getElem?_cons_zero, List.getElem?_cons_succ] at e0 e1 e2 e3
      clear P3
      by_cases c1 : 0 ≤ x ∧ x < xs.length ∧ wd = 1
      · obtain ⟨q0, q1, rfl⟩ := c1
        obtain ⟨k, rfl⟩ : ∃ k : Nat, x = k := ⟨x.toNat, by omega⟩
        have hk : k < xs.length := by omega
        have hd0 : decide ((0 : Int) ≤ (k : Int)) = true := decide_eq_true q0
        have hd1 : decide (k < xs.length) = true := decide_eq_true hk
        have hd2 : decide ((k : Int) < xs.length) = true := decide_eq_true q1
        have HF : Hid (putW xs k r f b d l = mendP ((piecesP xs).set k ⟨⟨r, 0, f, b, d, l⟩, -10⟩)) := by
          unfold putW putPc
          rw [HOK.out, if_pos rfl, if_pos ⟨q0, q1, HWD.out⟩, Int.toNat_natCast]
          rfl
        have HBB : Hid (∀ i, i < xs.length → -100 ≤ (pat ((piecesP xs).set k ⟨⟨r, 0, f, b, d, l⟩, -10⟩) i).s ∧ (pat ((piecesP xs).set k ⟨⟨r, 0, f, b, d, l⟩, -10⟩) i).s ≤ 1000) := bound_set (pieces_len xs) hk (by show -100 ≤ (-10 : Int) ∧ (-10 : Int) ≤ 1000; omega) (bound_pieces hn8)
        cases hd3 : decide ((k : Int) < (xs.length : Int) - 1) with
        | true =>
          go_upto_region 10 with (first
            | (refine pstore_list rfl _ _ rfl (d := ⟨⟨r, 0, f, b, d, l⟩, -10⟩) (k := k) rfl rfl HS.out.1 (by omega) ?_; intro w5 r5 g5; have Hw5 : Hid (PRow w5 w2.heap.size (.slice (some ⟨g, 0, none⟩) xs.length pc) ((piecesP xs).set k ⟨⟨r, 0, f, b, d, l⟩, -10⟩) ∧ Own w5 w.heap.size 26 #[.int .u32 f, .int .u32 b, .int .u8 d, .int .u16 l] ∧ Below w.heap.size w w5) := ⟨r5, HS.out.2.1.grown g5 hne, below_grown HS.out.2.2 g5 (by omega) HS.out.2.2.size⟩; clear r5 g5)
            | go_in)
          go_wp2_with fail
          refine (mend_any g xs.length pc _ ((piecesP xs).set k ⟨⟨r, 0, f, b, d, l⟩, -10⟩) _ Hw5.out.1 (by omega) hn8 HBB.out).mono ?_
          rintro e w8 ⟨v8, rfl, r8, b8⟩
          have R8 := Lib.hid r8
          have B8 := Lib.hid b8
          clear r8 b8
          go_wp2_with fail
          go_ret
          exact ⟨_, rfl, by rw [HF.out]; exact R8.out.up Hw5.out.2.2.size, Hw5.out.2.2.trans (B8.out.mono Hw5.out.2.2.size)⟩
        | false =>
          go_upto_region 10 with (first
            | (refine pstore_list rfl _ _ rfl (d := ⟨⟨r, 0, f, b, d, l⟩, -10⟩) (k := k) rfl rfl HS.out.1 (by omega) ?_; intro w5 r5 g5; have Hw5 : Hid (PRow w5 w2.heap.size (.slice (some ⟨g, 0, none⟩) xs.length pc) ((piecesP xs).set k ⟨⟨r, 0, f, b, d, l⟩, -10⟩) ∧ Own w5 w.heap.size 26 #[.int .u32 f, .int .u32 b, .int .u8 d, .int .u16 l] ∧ Below w.heap.size w w5) := ⟨r5, HS.out.2.1.grown g5 hne, below_grown HS.out.2.2 g5 (by omega) HS.out.2.2.size⟩; clear r5 g5)
            | go_in)
          go_wp2_with fail
          refine (mend_any g xs.length pc _ ((piecesP xs).set k ⟨⟨r, 0, f, b, d, l⟩, -10⟩) _ Hw5.out.1 (by omega) hn8 HBB.out).mono ?_
          rintro e w8 ⟨v8, rfl, r8, b8⟩
          have R8 := Lib.hid r8
          have B8 := Lib.hid b8
          clear r8 b8
          go_wp2_with fail
          go_ret
          exact ⟨_, rfl, by rw [HF.out]; exact R8.out.up Hw5.out.2.2.size, Hw5.out.2.2.trans (B8.out.mono Hw5.out.2.2.size)⟩
      · by_cases c2 : 0 ≤ x ∧ x < (xs.length : Int) - 1 ∧ wd = 2
        · obtain ⟨q0, q1, rfl⟩ := c2
          obtain ⟨k, rfl⟩ : ∃ k : Nat, x = k := ⟨x.toNat, by omega⟩
          have hk : k < xs.length := by omega
          have hk2 : k + 1 < xs.length := by omega
          have hi1 : (k : Int) + 1 < xs.length := by omega
          have hi0 : (0 : Int) ≤ (k : Int) + 1 := by omega
          have hd0 : decide ((0 : Int) ≤ (k : Int)) = true := decide_eq_true q0
          have hd1 : decide (k < xs.length) = true := decide_eq_true hk
          have hd2 : decide ((k : Int) < xs.length) = true := decide_eq_true (by omega)
          have hd3 : decide ((k : Int) < (xs.length : Int) - 1) = true := decide_eq_true q1
          have HF : Hid (putW xs k r f b d l = mendP (((piecesP xs).set k ⟨⟨r, 1, f, b, d, l⟩, -10⟩).set (k + 1) ⟨⟨0, 2, f, b, d, l⟩, -9⟩)) := by
            unfold putW putPc
            rw [HOK.out, if_pos rfl, if_neg (fun h => by have := h.2.2; rw [HWD.out] at this; omega), if_pos ⟨q0, q1, HWD.out⟩, Int.toNat_natCast]
            rfl
          have HBB : Hid (∀ i, i < xs.length → -100 ≤ (pat (((piecesP xs).set k ⟨⟨r, 1, f, b, d, l⟩, -10⟩).set (k + 1) ⟨⟨0, 2, f, b, d, l⟩, -9⟩) i).s ∧ (pat (((piecesP xs).set k ⟨⟨r, 1, f, b, d, l⟩, -10⟩).set (k + 1) ⟨⟨0, 2, f, b, d, l⟩, -9⟩) i).s ≤ 1000) := bound_set (by rw [List.length_set, pieces_len]) hk2 (by show -100 ≤ (-9 : Int) ∧ (-9 : Int) ≤ 1000; omega) (bound_set (pieces_len xs) hk (by show -100 ≤ (-10 : Int) ∧ (-10 : Int) ≤ 1000; omega) (bound_pieces hn8))
          go_upto_region 9 with (first
            | (refine pstore_list rfl _ _ rfl (d := ⟨⟨r, 1, f, b, d, l⟩, -10⟩) (k := k) rfl rfl HS.out.1 (by omega) ?_; intro w5 r5 g5; have Hw5 : Hid (PRow w5 w2.heap.size (.slice (some ⟨g, 0, none⟩) xs.length pc) ((piecesP xs).set k ⟨⟨r, 1, f, b, d, l⟩, -10⟩) ∧ Own w5 w.heap.size 26 #[.int .u32 f, .int .u32 b, .int .u8 d, .int .u16 l] ∧ Below w.heap.size w w5) := ⟨r5, HS.out.2.1.grown g5 hne, below_grown HS.out.2.2 g5 (by omega) HS.out.2.2.size⟩; clear r5 g5)
            | go_in)
          clear e0 e1 e2 e3
          have e0 := Own.cell Hw5.out.2.1 0
          have e1 := Own.cell Hw5.out.2.1 1
          have e2 := Own.cell Hw5.out.2.1 2
          have e3 := Own.cell Hw5.out.2.1 3
          simp only [List.getElem?_toArray, List.getElem?_cons_zero, List.getElem?_cons_succ] at e0 e1 e2 e3
          go_upto_region 10 with (first
            | (refine pstore_list rfl _ _ rfl (d := ⟨⟨0, 2, f, b, d, l⟩, -9⟩) (k := k + 1) rfl rfl Hw5.out.1 (by omega) ?_; intro w6 r5 g5; have Hw6 : Hid (PRow w6 w2.heap.size (.slice (some ⟨g, 0, none⟩) xs.length pc) (((piecesP xs).set k ⟨⟨r, 1, f, b, d, l⟩, -10⟩).set (k + 1) ⟨⟨0, 2, f, b, d, l⟩, -9⟩) ∧ Own w6 w.heap.size 26 #[.int .u32 f, .int .u32 b, .int .u8 d, .int .u16 l] ∧ Below w.heap.size w w6) := ⟨r5, Hw5.out.2.1.grown g5 hne, below_grown Hw5.out.2.2 g5 (by omega) Hw5.out.2.2.size⟩; clear r5 g5)
            | go_in)
          go_wp2_with fail
          refine (mend_any g xs.length pc _ (((piecesP xs).set k ⟨⟨r, 1, f, b, d, l⟩, -10⟩).set (k + 1) ⟨⟨0, 2, f, b, d, l⟩, -9⟩) _ Hw6.out.1 (by omega) hn8 HBB.out).mono ?_
          rintro e w8 ⟨v8, rfl, r8, b8⟩
          have R8 := Lib.hid r8
          have B8 := Lib.hid b8
          clear r8 b8
          go_wp2_with fail
          go_ret
          exact ⟨_, rfl, by rw [HF.out]; exact R8.out.up Hw6.out.2.2.size, Hw6.out.2.2.trans (B8.out.mono Hw6.out.2.2.size)⟩
        · have HF : Hid (putW xs x r f b d l = mendP (piecesP xs)) := by
            unfold putW putPc
            rw [HOK.out, if_pos rfl, HWD.out, if_neg c1, if_neg c2]
            rfl
          have HBB : Hid (∀ i, i < xs.length → -100 ≤ (pat (piecesP xs) i).s ∧ (pat (piecesP xs) i).s ≤ 1000) := bound_pieces hn8
          go_upto_region 5 with fail
          go_cut [34] (fun v wc => v = .bool false ∧ wc = w3)
          case first =>
            cases hd0 : decide ((0 : Int) ≤ x) with
            | false =>
              go_wp2_with fail
              go_meet
              exact ⟨rfl, rfl⟩
            | true =>
              cases hd1 : decide (x < (xs.length : Int)) with
              | false =>
                go_wp2_with fail
                go_meet
                exact ⟨rfl, rfl⟩
              | true =>
                have hw1 : (wd == 1) = false := beq_eq_false_iff_ne.2 (fun e => c1 ⟨of_decide_eq_true hd0, of_decide_eq_true hd1, e⟩)
                go_wp2_with fail
                go_meet
                exact ⟨rfl, rfl⟩
          case rest =>
            obtain ⟨rfl, rfl⟩ := hcut
            go_upto_region 7 with fail
            go_cut [54] (fun v wd => v = .bool false ∧ wd = wc)
            case first =>
              cases hd0 : decide ((0 : Int) ≤ x) with
              | false =>
                go_wp2_with fail
                go_meet
                exact ⟨rfl, rfl⟩
              | true =>
                cases hd1 : decide (x < (xs.length : Int) - 1) with
                | false =>
                  go_wp2_with fail
                  go_meet
                  exact ⟨rfl, rfl⟩
                | true =>
                  have hw1 : (wd == 2) = false := beq_eq_false_iff_ne.2 (fun e => c2 ⟨of_decide_eq_true hd0, of_decide_eq_true hd1, e⟩)
                  go_wp2_with fail
                  go_meet
                  exact ⟨rfl, rfl⟩
            case rest =>
              obtain ⟨rfl, rfl⟩ := hcut
              go_wp2_with fail
              refine (mend_any g xs.length pc _ (piecesP xs) _ HS.out.1 (by omega) hn8 HBB.out).mono ?_
              rintro e w8 ⟨v8, rfl, r8, b8⟩
              have R8 := Lib.hid r8
              have B8 := Lib.hid b8
              clear r8 b8
              go_wp2_with fail
              go_ret
              exact ⟨_, rfl, by rw [HF.out]; exact R8.out.up HS.out.2.2.size, HS.out.2.2.trans (B8.out.mono HS.out.2.2.size)⟩
end Go.Proofs.YtlhcehealjdbdaaDoor
