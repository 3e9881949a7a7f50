/- Part 12 of the texts that GridPlays stands on, one behind the other. -/
import Derived.Test.YtlhcehealjdbdaaDoorP10
import Derived.Test.YtlhcehealjdbdaaDoorP11
import Derived.Deep.DeepCutAuto
/- Cells taken out at a place, as the document says. -/
namespace Go.Proofs.YtlhcehealjdbdaaDoor
open Go.RowKit
set_option linter.unusedSimpArgs false
set_option linter.unusedVariables false
attribute [local go_sem] alloc_drewN setCell_drewN

def sliceLen : Value → Nat
  | .slice _ n _ => n
  | _ => 0
set_option maxRecDepth 10000 in
set_option maxHeartbeats 4000000 in
theorem ref_delete_any (a : Option Addr) (n c : Nat) (x m f b d l : Int) (xs : List Glyph) (w : World) (hl : Cells w a n xs) : Calls Tryd.prog 54 #[.slice a n c, .int .i64 x, .int .i64 m, .agg #[.int .u32 f, .int .u32 b, .int .u8 d, .int .u16 l]] w (GPost (deleteW xs x m f b) w) := by
  obtain rfl := hl.1
  have HL := Lib.hid hl
  clear hl
  obtain ⟨rb, hrb⟩ : ∃ rb, rowMay xs = rb := ⟨_, rfl⟩
  obtain ⟨pb, hpb⟩ : ∃ pb, penMay f b = pb := ⟨_, rfl⟩
  have HRB := Lib.hid hrb
  have HPB := Lib.hid hpb
  have HNO : Hid ((rb && pb) = false → deleteW xs x m f b = []) := fun h => by unfold deleteW; rw [hrb, hpb, h]; rfl
  clear hrb hpb
  have B0 : Hid (Below w.heap.size w (w.alloc (.cells #[.int .u32 f, .int .u32 b, .int .u8 d, .int .u16 l] 26))) := (Below.refl _ _).alloc (Nat.le_refl _) _
  have P0 : Hid (Own (w.alloc (.cells #[.int .u32 f, .int .u32 b, .int .u8 d, .int .u16 l] 26)) w.heap.size 26 #[.int .u32 f, .int .u32 b, .int .u8 d, .int .u16 l]) := Own.new w 26 _
  have hz0 : w.heap.size < (w.alloc (.cells #[.int .u32 f, .int .u32 b, .int .u8 d, .int .u16 l] 26)).heap.size := by simp
  go_enter Tryd.func54, Tryd.ntmps54
  go_wp2_with fail
  refine (RVal.as (ref_row_any a xs.length c xs _ (HL.out.below B0.out)) (congrArg Value.bool HRB.out)).mono ?_
  generalize w.alloc (.cells #[.int .u32 f, .int .u32 b, .int .u8 d, .int .u16 l] 26) = w0 at B0 P0 hz0 ⊢
  rintro e w1 ⟨rfl, b1⟩
  have B1 : Hid (Below w.heap.size w w1) := B0.out.trans (b1.mono B0.out.size)
  have P1 := Lib.hid (P0.out.below b1 hz0)
  have hz1 : w.heap.size < w1.heap.size := Nat.lt_of_lt_of_le hz0 b1.size
  clear b1
  have e0 := Own.cell P1.out 0
  have e1 := Own.cell P1.out 1
  have e2 := Own.cell P1.out 2
  have e3 := Own.cell P1.out 3
  simp only [List.getElem?_toArray, List.getElem?_cons_zero, List.getElem?_cons_succ] at e0 e1 e2 e3
  cases rb with
  | false =>
    have HF := Lib.hid (HNO.out rfl)
    go_wp2_with fail
    go_ret
    exact ⟨_, rfl, by rw [HF.out]; exact CRow.nil _ _, B1.out⟩
  | true =>
    go_wp2_with fail
    refine (RVal.as (ref_pen_any f b d l _) (congrArg Value.bool HPB.out)).mono ?_
    rintro e w2 ⟨rfl, b2⟩
    have B2 : Hid (Below w.heap.size w w2) := B1.out.trans (b2.mono B1.out.size)
    have P2 := Lib.hid (P1.out.below b2 hz1)
    have hz2 : w.heap.size < w2.heap.size := Nat.lt_of_lt_of_le hz1 b2.size
    clear b2 e0 e1 e2 e3
    cases pb with
    | false =>
      have HF := Lib.hid (HNO.out rfl)
      go_wp2_with fail
      go_ret
      exact ⟨_, rfl, by rw [HF.out]; exact CRow.nil _ _, B2.out⟩
    | true =>
      have hn8 := (row_iff.1 HRB.out).2.1
      have hn1 := (row_iff.1 HRB.out).1
      have HOK : Hid ((rowMay xs && penMay f b) = true) := by rw [HRB.out, HPB.out]; rfl
      clear HNO B0 P0 hz0 B1 P1 hz1
      obtain ⟨bl, off, rfl, hbl, _⟩ := HL.out.2.2 (by omega)
      have HSAME : Hid ((x < 0 ∨ xs.length ≤ x ∨ m < 1) → deleteW xs x m f b = xs) := fun h => by unfold deleteW; rw [HOK.out, if_pos rfl, if_pos h]
      have HX2 : Hid (Cells w2 (some ⟨bl, off, none⟩) xs.length xs) := HL.out.below B2.out
      cases hx0 : decide (x < 0) with
      | true =>
        have HF := Lib.hid (HSAME.out (.inl (of_decide_eq_true hx0)))
        go_wp2_with (first
          | (at_builtin; refine gapp_in rfl _ _ rfl rfl (gempty_row w2) rfl (HX2.out.alloc _) (by omega) (by simp) ?_; intro v1 w1 r1 b1)
          | go_in)
        go_ret
        exact ⟨_, rfl, by rw [HF.out]; exact CRow.up r1 B2.out.size, B2.out.trans ((((Below.refl _ _).alloc (Nat.le_refl _) _).trans b1).mono B2.out.size)⟩
      | false =>
        cases hx1 : decide ((xs.length : Int) ≤ x) with
        | true =>
          have HF := Lib.hid (HSAME.out (.inr (.inl (of_decide_eq_true hx1))))
          go_wp2_with (first
            | (at_builtin; refine gapp_in rfl _ _ rfl rfl (gempty_row w2) rfl (HX2.out.alloc _) (by omega) (by simp) ?_; intro v1 w1 r1 b1)
            | go_in)
          go_ret
          exact ⟨_, rfl, by rw [HF.out]; exact CRow.up r1 B2.out.size, B2.out.trans ((((Below.refl _ _).alloc (Nat.le_refl _) _).trans b1).mono B2.out.size)⟩
        | false =>
          cases hm1 : decide (m < 1) with
          | true =>
            have HF := Lib.hid (HSAME.out (.inr (.inr (of_decide_eq_true hm1))))
            go_wp2_with (first
              | (at_builtin; refine gapp_in rfl _ _ rfl rfl (gempty_row w2) rfl (HX2.out.alloc _) (by omega) (by simp) ?_; intro v1 w1 r1 b1)
              | go_in)
            go_ret
            exact ⟨_, rfl, by rw [HF.out]; exact CRow.up r1 B2.out.size, B2.out.trans ((((Below.refl _ _).alloc (Nat.le_refl _) _).trans b1).mono B2.out.size)⟩
          | false =>
            have q0 := of_decide_eq_false hx0
            have q1 := of_decide_eq_false hx1
            have q2 := of_decide_eq_false hm1
            obtain ⟨k, rfl⟩ : ∃ k : Nat, x = k := ⟨x.toNat, by omega⟩
            have hkn : k < xs.length := by omega
            obtain ⟨j, hj⟩ : ∃ j : Nat, min m ((xs.length : Int) - k) = j := ⟨(min m ((xs.length : Int) - k)).toNat, by omega⟩
            have HJ := Lib.hid hj
            have hj1 : 1 ≤ j := by omega
            have hj2 : k + j ≤ xs.length := by omega
            have hjm : (j : Int) ≤ m := by omega
            have hjo : m = j ∨ k + j = xs.length := by omega
            have hkp : (k : Int) ≤ xs.length := by omega
            clear hj
            have HF : Hid (deleteW xs k m f b = mendP (deletePc xs k m b)) := by unfold deleteW; rw [HOK.out, if_pos rfl, if_neg (by omega)]; rfl
            go_upto_region 5 with fail
            clear q0 q1 q2 hx0 hx1 hm1
            go_wp2_with fail
            refine (pieces_any _ xs.length c xs _ (HL.out.below B2.out) hn1 hn8).mono ?_
            rintro e w3 ⟨v3, rfl, r3, b3⟩
            obtain ⟨pa, pc, rfl⟩ := prow_form r3
            rw [pieces_len] at r3 ⊢
            obtain ⟨g, rfl⟩ := prow_addr r3 (by omega)
            have R3 : Hid (PRow w3 w2.heap.size (.slice (some ⟨g, 0, none⟩) xs.length pc) (piecesP xs)) := r3
            have B3 : Hid (Below w.heap.size w w3) := B2.out.trans (b3.mono B2.out.size)
            have P3 := Lib.hid (P2.out.below b3 hz2)
            have hz3 : w.heap.size < w3.heap.size := Nat.lt_of_lt_of_le hz2 b3.size
            have hbg : w2.heap.size ≤ g := (prow_at R3.out (k := 0) (by omega)).2.1
            have hgw : g < w3.heap.size := (prow_at R3.out (k := 0) (by omega)).2.2.2
            have hne : some w.heap.size ≠ some g := fun e => by injection e with e; omega
            have hpcn : xs.length ≤ pc := (prow_own R3.out).choose_spec.2.2
            clear r3 b3
            have hkpc : (k : Int) ≤ pc := by omega
            go_wp2_with (first
              | (at_builtin; refine papp rfl _ _ rfl rfl (pempty_row w3) rfl (by rw [List.length_take, pieces_len]; omega) (prow_src (m := k) (R3.out.alloc _)) (by simp only [List.length_nil, List.length_take, pieces_len]; omega) (by simp) ?_; intro v4 w4 r4 b4; have HI0 : Hid (PRel w w3.heap.size w2.heap.size g pc xs f b d l (delA xs k j 0) v4 w4) := PRel.app (ps := []) (vo := .slice (some ⟨w3.heap.size, 0, none⟩) 0 0) ⟨pempty_row w3, R3.out.alloc _, P3.out.alloc _, B3.out.alloc B3.out.size _, by simp⟩ (by rw [← delA_zero]; exact r4) b4 hz3 hgw; clear r4 b4)
              | go_in)
            clear R3 P3 B3
            go_loopw [10, 11] (fun vo v wr => ∃ q r : Nat, r ≤ xs.length ∧ k + q = r ∧ v = .int .i64 r ∧ Hid (PRel w w3.heap.size w2.heap.size g pc xs f b d l (delA xs k j q) vo wr)) (fun _ v _ => xs.length - (intOf v).toNat)
            case atStart => exact ⟨0, k, by omega, by omega, rfl, HI0⟩
            case round =>
              obtain ⟨q, r, hq1, hqr, rfl, HR⟩ := hrel
              clear HI0
              obtain ⟨oa, oc, hvo⟩ := prow_form HR.out.1
              rw [delA_len (by omega)] at hvo
              obtain ⟨p, hp⟩ : ∃ p, k + (q - j) = p := ⟨_, rfl⟩
              rw [hp] at hvo
              subst hvo
              by_cases hr : r < xs.length
              · have hi0 : (0 : Int) ≤ (r : Int) := by omega
                have hi1 : (r : Int) < (xs.length : Int) := by omega
                have HQ : Hid (r < xs.length ∧ k + q = r ∧ k + (q - j) = p) := ⟨hr, hqr, hp⟩
                by_cases hqj : q < j
                · have d1 : decide (m ≤ (r : Int) - k) = false := decide_eq_false (by omega)
                  have HY : Hid (PRel w w3.heap.size w2.heap.size g pc xs f b d l (delA xs k j (q + 1)) (.slice oa p oc) wr) := by rw [delA_skip hqj]; exact HR.out
                  clear hp hqr
                  go_wp2_with fail
                  go_roundw
                  case rel => exact ⟨q + 1, r + 1, by have := HQ.out; omega, by have := HQ.out; omega, by go_num, HY⟩
                  case measure => have := HQ.out; simp [intOf]; omega
                · have d1 : decide (m ≤ (r : Int) - k) = true := decide_eq_true (by omega)
                  have HNX : Hid (delA xs k j q ++ [pat (piecesP xs) r] = delA xs k j (q + 1)) := by rw [← hqr]; exact delA_next (by omega) (by omega)
                  obtain ⟨y, hy⟩ : ∃ y, pat (piecesP xs) r = y := ⟨_, rfl⟩
                  rw [hy] at HNX
                  have HG : Hid (PAt wr g (r * 7) y) := by rw [← hy]; exact (prow_at HR.out.2.1 hr).1
                  obtain ⟨⟨e0, e1, e2, e3, e4, e5⟩, e6⟩ := HG.out
                  clear hy hp hqr
                  go_wp2_with (first
                    | (at_builtin; refine papp rfl _ _ rfl rfl (HR.out.1.alloc _) rfl rfl (one_src (p := y) (Own.new wr 95 _)) (by rw [delA_len (by have := HQ.out; omega)]; simp only [List.length_cons, List.length_nil]; have := HQ.out; omega) (by have := HR.out.2.2.2.2; simp; omega) ?_; intro v5 w5 r5 b5; have HY : Hid (PRel w w3.heap.size w2.heap.size g pc xs f b d l (delA xs k j (q + 1)) v5 w5) := PRel.app (HR.out.alloc hz3 _) (by rw [← HNX.out]; exact r5) b5 hz3 hgw; clear r5 b5 e0 e1 e2 e3 e4 e5 e6)
                    | go_in)
                  go_roundw
                  case rel => exact ⟨q + 1, r + 1, by have := HQ.out; omega, by have := HQ.out; omega, by go_num, HY⟩
                  case measure => have := HQ.out; simp [intOf]; omega
              · obtain rfl : r = xs.length := by omega
                have HI1 : Hid (PRel w w3.heap.size w2.heap.size g pc xs f b d l (delB xs k b j 0) (.slice oa p oc) wr) := by rw [← delB_zero, show xs.length - k = q from by omega]; exact HR.out
                clear HR hp hr hqr
                go_wp2_with fail
                go_loopw [10] (fun vo wr => ∃ t : Nat, t ≤ j ∧ Hid (PRel w w3.heap.size w2.heap.size g pc xs f b d l (delB xs k b j t) vo wr)) (fun v _ => xs.length - sliceLen v)
                case atStart => exact ⟨0, by omega, HI1⟩
                case round =>
                  obtain ⟨t, ht1, HR⟩ := hrel
                  clear HI1
                  obtain ⟨ua, uc, hvo⟩ := prow_form HR.out.1
                  rw [delB_len (by omega)] at hvo
                  obtain ⟨s, hs⟩ : ∃ s, xs.length - j + t = s := ⟨_, rfl⟩
                  rw [hs] at hvo
                  subst hvo
                  by_cases hst : s < xs.length
                  · have HQ : Hid (xs.length - j + t = s ∧ s < xs.length) := ⟨hs, hst⟩
                    clear hs
                    have e0 := Own.cell HR.out.2.2.1 0
                    have e1 := Own.cell HR.out.2.2.1 1
                    have e2 := Own.cell HR.out.2.2.1 2
                    have e3 := Own.cell HR.out.2.2.1 3
                    simp only [List.getElem?_toArray, List.getElem?_cons_zero, List.getElem?_cons_succ] at e0 e1 e2 e3
                    go_wp2_with fail
                    refine (ref_blank_any f b d l _).mono ?_
                    rintro e wx ⟨rfl, bx⟩
                    have HX : Hid (PRel w w3.heap.size w2.heap.size g pc xs f b d l (delB xs k b j t) (.slice ua s uc) wx) := HR.out.below bx hz3
                    clear bx HR e0 e1 e2 e3
                    go_wp2_with (first
                      | (at_builtin; refine papp rfl _ _ rfl rfl (HX.out.1.alloc _) rfl rfl (one_src (p := newPc b) (Own.new wx 95 _)) (by rw [delB_len (by omega)]; simp only [List.length_cons, List.length_nil]; have := HQ.out; omega) (by have := HX.out.2.2.2.2; simp; omega) ?_; intro v5 w5 r5 b5; have HY : Hid (PRel w w3.heap.size w2.heap.size g pc xs f b d l (delB xs k b j (t + 1)) v5 w5) := PRel.app (HX.out.alloc hz3 _) (by rw [← delB_next]; exact r5) b5 hz3 hgw; clear r5 b5)
                      | go_in)
                    go_roundw
                    case rel => exact ⟨t + 1, by have := HQ.out; omega, HY⟩
                    case measure =>
                      obtain ⟨za, zc, hz⟩ := prow_form HY.out.1
                      rw [delB_len (by omega)] at hz
                      have := HQ.out
                      rw [hz]
                      simp only [sliceLen]
                      omega
                  · obtain rfl : s = xs.length := by omega
                    have HE : Hid (PRel w w3.heap.size w2.heap.size g pc xs f b d l (deletePc xs k m b) (.slice ua xs.length uc) wr) := by
                      obtain rfl : t = j := by omega
                      rw [← delB_all (k := k) (j := t) rfl HJ.out]
                      exact HR.out
                    have HBB : Hid (∀ i, i < xs.length → -100 ≤ (pat (deletePc xs k m b) i).s ∧ (pat (deletePc xs k m b) i).s ≤ 1000) := bound_delete hn8 rfl HJ.out hkn hj2
                    obtain ⟨u, rfl⟩ := prow_addr HE.out.1 (by omega)
                    clear HR hs hst
                    go_wp2_with fail
                    refine (mend_any u xs.length uc _ (deletePc xs k m b) _ HE.out.1 (by omega) hn8 HBB.out).mono ?_
                    rintro e w8 ⟨v8, rfl, r8, b8⟩
                    have R8 := Lib.hid r8
                    have B8 := Lib.hid b8
                    clear r8 b8
                    go_wp2_with fail
                    go_ret
                    exact ⟨_, rfl, by rw [HF.out]; exact R8.out.up HE.out.2.2.2.1.size, HE.out.2.2.2.1.trans (B8.out.mono HE.out.2.2.2.1.size)⟩
end Go.Proofs.YtlhcehealjdbdaaDoor
