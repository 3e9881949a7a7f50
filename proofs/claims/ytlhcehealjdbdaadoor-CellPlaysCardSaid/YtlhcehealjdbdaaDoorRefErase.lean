/- Blanks, as the document says. -/
import Derived.Test.YtlhcehealjdbdaaDoorPBound
import Derived.Test.YtlhcehealjdbdaaDoorMend
import Derived.Deep.DeepCutAuto
namespace Go.Proofs.YtlhcehealjdbdaaDoor
open Go.RowKit
set_option linter.unusedSimpArgs false
set_option linter.unusedVariables false
attribute [local go_sem] alloc_drewN setCell_drewN


def ERel (w : World) (lo g pc : Nat) (xs : List Glyph) (f b d l x m : Int) (q : Nat) (wr : World) : Prop :=
  PRow wr lo (.slice (some ⟨g, 0, none⟩) xs.length pc) (erasePk xs x m b q) ∧ Own wr w.heap.size 26 #[.int .u32 f, .int .u32 b, .int .u8 d, .int .u16 l] ∧ Below w.heap.size w wr
set_option maxRecDepth 10000 in
set_option maxHeartbeats 4000000 in
theorem ref_erase_any (a : Option Addr) (n c : Nat) (x m f b d l : Int) (xs : List Glyph) (w : World) (hl : Cells w a n xs) : Calls Tryd.prog 52 #[.slice a n c, .int .i64 x, .int .i64 m, .agg #[.int .u32 f, .int .u32 b, .int .u8 d, .int .u16 l]] w (GPost (eraseW xs x m f b) w) := by
  obtain rfl := hl.1
  have HL := Lib.hid hl
  clear hl
  obtain ⟨rb, hrb⟩ : ∃ rb, rowMay xs = rb := ⟨_, rfl⟩
  obtain ⟨pb, hpb⟩ : ∃ pb, penMay f b = pb := ⟨_, rfl⟩
  have HRB := Lib.hid hrb
  have HPB := Lib.hid hpb
  have HNO : Hid ((rb && pb) = false → eraseW xs x m f b = []) := fun h => by unfold eraseW; rw [hrb, hpb, h]; rfl
  clear hrb hpb
  have B0 : Hid (Below w.heap.size w (w.alloc (.cells #[.int .u32 f, .int .u32 b, .int .u8 d, .int .u16 l] 26))) := (Below.refl _ _).alloc (Nat.le_refl _) _
  have P0 : Hid (Own (w.alloc (.cells #[.int .u32 f, .int .u32 b, .int .u8 d, .int .u16 l] 26)) w.heap.size 26 #[.int .u32 f, .int .u32 b, .int .u8 d, .int .u16 l]) := Own.new w 26 _
  have hz0 : w.heap.size < (w.alloc (.cells #[.int .u32 f, .int .u32 b, .int .u8 d, .int .u16 l] 26)).heap.size := by simp
  go_enter Tryd.func52, Tryd.ntmps52
  go_wp2_with fail
  refine (RVal.as (ref_row_any a xs.length c xs _ (HL.out.below B0.out)) (congrArg Value.bool HRB.out)).mono ?_
  generalize w.alloc (.cells #[.int .u32 f, .int .u32 b, .int .u8 d, .int .u16 l] 26) = w0 at B0 P0 hz0 ⊢
  rintro e w1 ⟨rfl, b1⟩
  have B1 : Hid (Below w.heap.size w w1) := B0.out.trans (b1.mono B0.out.size)
  have P1 := Lib.hid (P0.out.below b1 hz0)
  have hz1 : w.heap.size < w1.heap.size := Nat.lt_of_lt_of_le hz0 b1.size
  clear b1
  have e0 := Own.cell P1.out 0
  have e1 := Own.cell P1.out 1
  have e2 := Own.cell P1.out 2
  have e3 := Own.cell P1.out 3
  simp only [List.getElem?_toArray, List.getElem?_cons_zero, List.getElem?_cons_succ] at e0 e1 e2 e3
  cases rb with
  | false =>
    have HF := Lib.hid (HNO.out rfl)
    go_wp2_with fail
    go_ret
    exact ⟨_, rfl, by rw [HF.out]; exact CRow.nil _ _, B1.out⟩
  | true =>
    go_wp2_with fail
    refine (RVal.as (ref_pen_any f b d l _) (congrArg Value.bool HPB.out)).mono ?_
    rintro e w2 ⟨rfl, b2⟩
    have B2 : Hid (Below w.heap.size w w2) := B1.out.trans (b2.mono B1.out.size)
    have P2 := Lib.hid (P1.out.below b2 hz1)
    have hz2 : w.heap.size < w2.heap.size := Nat.lt_of_lt_of_le hz1 b2.size
    clear b2 e0 e1 e2 e3
    cases pb with
    | false =>
      have HF := Lib.hid (HNO.out rfl)
      go_wp2_with fail
      go_ret
      exact ⟨_, rfl, by rw [HF.out]; exact CRow.nil _ _, B2.out⟩
    | true =>
      have hn8 := (row_iff.1 HRB.out).2.1
      have hn1 := (row_iff.1 HRB.out).1
      have HOK : Hid ((rowMay xs && penMay f b) = true) := by rw [HRB.out, HPB.out]; rfl
      clear HNO B0 P0 hz0 B1 P1 hz1
      have HF : Hid (eraseW xs x m f b = mendP (erasePk xs x m b xs.length)) := by
        unfold eraseW
        rw [HOK.out, if_pos rfl]
        rfl
      go_wp2_with fail
      refine (pieces_any _ xs.length c xs _ (HL.out.below B2.out) hn1 hn8).mono ?_
      rintro e w3 ⟨v3, rfl, r3, b3⟩
      obtain ⟨pa, pc, rfl⟩ := prow_form r3
      rw [pieces_len] at r3 ⊢
      obtain ⟨g, rfl⟩ := prow_addr r3 (by omega)
      have R3 : Hid (PRow w3 w2.heap.size (.slice (some ⟨g, 0, none⟩) xs.length pc) (piecesP xs)) := r3
      have B3 : Hid (Below w.heap.size w w3) := B2.out.trans (b3.mono B2.out.size)
      have P3 := Lib.hid (P2.out.below b3 hz2)
      have hz3 : w.heap.size < w3.heap.size := Nat.lt_of_lt_of_le hz2 b3.size
      have hbg : w2.heap.size ≤ g := (prow_at R3.out (k := 0) (by omega)).2.1
      have hgw : g < w3.heap.size := (prow_at R3.out (k := 0) (by omega)).2.2.2
      have hne : some w.heap.size ≠ some g := fun e => by injection e with e; omega
      have hpcn : xs.length ≤ pc := (prow_own R3.out).choose_spec.2.2
      clear r3 b3
      have HL0 : Hid (ERel w w2.heap.size g pc xs f b d l x m 0 w3) := ⟨by rw [erase_zero]; exact R3.out, P3.out, B3.out⟩
      clear R3 P3 B3
      go_wp2_with fail
      go_loopw [23] (fun v wr => ∃ q : Nat, q ≤ xs.length ∧ v = .int .i64 q ∧ Hid (ERel w w2.heap.size g pc xs f b d l x m q wr)) (fun v _ => xs.length - (intOf v).toNat)
      case atStart => exact ⟨0, by omega, rfl, HL0⟩
      case round =>
        obtain ⟨q, hq1, rfl, HR⟩ := hrel
        clear HL0
        by_cases hq : q < xs.length
        · have hi0 : (0 : Int) ≤ (q : Int) := by omega
          have hi1 : (q : Int) < (xs.length : Int) := by omega
          have HQ : Hid (q < xs.length) := hq
          cases ha : decide (x ≤ (q : Int)) with
          | false =>
            have HO : Hid (erasePk xs x m b (q + 1) = erasePk xs x m b q) := erase_out (fun k => of_decide_eq_false ha k.1)
            go_wp2_with fail
            go_roundw
            case rel => exact ⟨q + 1, HQ.out, by go_num, by unfold ERel; rw [HO.out]; exact HR.out⟩
            case measure => have := HQ.out; simp [intOf]; omega
          | true =>
            cases hb : decide ((q : Int) < m) with
            | false =>
              have HO : Hid (erasePk xs x m b (q + 1) = erasePk xs x m b q) := erase_out (fun k => of_decide_eq_false hb k.2)
              go_wp2_with fail
              go_roundw
              case rel => exact ⟨q + 1, HQ.out, by go_num, by unfold ERel; rw [HO.out]; exact HR.out⟩
              case measure => have := HQ.out; simp [intOf]; omega
            | true =>
              have HI : Hid ((erasePk xs x m b q).set q ⟨blank b, -10⟩ = erasePk xs x m b (q + 1)) := erase_in hq ⟨of_decide_eq_true ha, of_decide_eq_true hb⟩
              have e0 := Own.cell HR.out.2.1 0
              have e1 := Own.cell HR.out.2.1 1
              have e2 := Own.cell HR.out.2.1 2
              have e3 := Own.cell HR.out.2.1 3
              simp only [List.getElem?_toArray, List.getElem?_cons_zero, List.getElem?_cons_succ] at e0 e1 e2 e3
              go_wp2_with fail
              refine (ref_blank_any f b d l _).mono ?_
              rintro e wx ⟨rfl, bx⟩
              have HX : Hid (ERel w w2.heap.size g pc xs f b d l x m q wx) := ⟨HR.out.1.below bx, HR.out.2.1.below bx HR.out.2.1.lt, HR.out.2.2.trans (bx.mono HR.out.2.2.size)⟩
              clear bx HR e0 e1 e2 e3
              go_wp2_with (first
                | (refine pstore_list rfl _ _ rfl (d := ⟨blank b, -10⟩) rfl rfl HX.out.1 hq ?_; intro wy r5 g5; have HY' : Hid (ERel w w2.heap.size g pc xs f b d l x m (q + 1) wy) := ⟨by rw [← HI.out]; exact r5, HX.out.2.1.grown g5 hne, below_grown HX.out.2.2 g5 (by omega) HX.out.2.2.size⟩; clear r5 g5)
                | go_in)
              go_roundw
              case rel => exact ⟨q + 1, HQ.out, by go_num, HY'⟩
              case measure => have := HQ.out; simp [intOf]; omega
        · obtain rfl : q = xs.length := by omega
          clear hq
          go_wp2_with fail
          refine (mend_any g xs.length pc _ (erasePk xs x m b xs.length) _ HR.out.1 (by omega) hn8 (bound_erase hn8)).mono ?_
          rintro e w8 ⟨v8, rfl, r8, b8⟩
          have R8 := Lib.hid r8
          have B8 := Lib.hid b8
          clear r8 b8
          go_wp2_with fail
          go_ret
          exact ⟨_, rfl, by rw [HF.out]; exact R8.out.up HR.out.2.2.size, HR.out.2.2.trans (B8.out.mono HR.out.2.2.size)⟩
end Go.Proofs.YtlhcehealjdbdaaDoor
