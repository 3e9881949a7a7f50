/- Cells taken out at a place. -/
import Derived.Test.YtlhcehealjdbdaaDoorErase
import Derived.Test.YtlhcehealjdbdaaDoorShift
import Derived.Deep.DeepCutAuto
namespace Go.Proofs.YtlhcehealjdbdaaDoor
open Go.RowKit
set_option linter.unusedSimpArgs false
set_option linter.unusedVariables false
attribute [local go_sem] alloc_drewN setCell_drewN


noncomputable def deleteP (xs : List Glyph) (x n : Int) (f b : Int) : List Glyph :=
  if (rowMay xs && penMay f b) = true then
    if x < 0 ∨ xs.length ≤ x ∨ n < 1 then xs else fillP (shiftP (cutP (cutP xs x.toNat) (x.toNat + (min n (xs.length - x)).toNat)) x.toNat (x.toNat + (min n (xs.length - x)).toNat) (xs.length - (x.toNat + (min n (xs.length - x)).toNat))) (xs.length - (min n (xs.length - x)).toNat) (blank b) (min n (xs.length - x)).toNat
  else []
set_option maxRecDepth 10000 in
set_option maxHeartbeats 2000000 in
theorem delete_any (a : Option Addr) (n c : Nat) (x m f b d l : Int) (xs : List Glyph) (w : World) (hl : Cells w a n xs) (ht : Tabs w) : Calls Tryd.prog 26 #[.slice a n c, .int .i64 x, .int .i64 m, .agg #[.int .u32 f, .int .u32 b, .int .u8 d, .int .u16 l]] w (GPost (deleteP xs x m f b) w) := by
  obtain rfl := hl.1
  have HL := Lib.hid hl
  have HT := Lib.hid ht
  clear hl ht
  obtain ⟨ok, hok⟩ : ∃ ok, (rowMay xs && penMay f b) = ok := ⟨_, rfl⟩
  have HOK := Lib.hid hok
  have B0 : Hid (Below w.heap.size w (w.alloc (.cells #[.int .u32 f, .int .u32 b, .int .u8 d, .int .u16 l] 26))) := (Below.refl _ _).alloc (Nat.le_refl _) _
  have P0 : Hid (Own (w.alloc (.cells #[.int .u32 f, .int .u32 b, .int .u8 d, .int .u16 l] 26)) w.heap.size 26 #[.int .u32 f, .int .u32 b, .int .u8 d, .int .u16 l]) := Own.new w 26 _
  have hlt : w.heap.size < (w.alloc (.cells #[.int .u32 f, .int .u32 b, .int .u8 d, .int .u16 l] 26)).heap.size := by simp
  go_enter Tryd.func26, Tryd.ntmps26
  go_wp2_with fail
  generalize w.alloc (.cells #[.int .u32 f, .int .u32 b, .int .u8 d, .int .u16 l] 26) = w0 at B0 P0 hlt ⊢
  have HO := own_any a xs.length c f b d l xs w0 (HL.out.below B0.out) (HT.out.below B0.out)
  rw [HOK.out] at HO
  refine HO.mono ?_
  clear HO
  rintro e w1 ⟨v1, rfl, r1, b1⟩
  have B1 : Hid (Below w.heap.size w w1) := B0.out.trans (b1.mono B0.out.size)
  have P1 : Hid (Own w1 w.heap.size 26 #[.int .u32 f, .int .u32 b, .int .u8 d, .int .u16 l]) := P0.out.below b1 hlt
  have hz1 : w0.heap.size ≤ w1.heap.size := b1.size
  clear b1
  cases ok with
  | false =>
    have HF : Hid (deleteP xs x m f b = []) := by unfold deleteP; rw [hok]; rfl
    have R1 : Hid (CRow w1 w.heap.size v1 []) := CRow.up r1 B0.out.size
    clear r1 hok
    go_wp2_with fail
    go_ret
    exact ⟨_, rfl, by rw [HF.out]; exact R1.out, B1.out⟩
  | true =>
    obtain ⟨ga, gc, rfl, _⟩ := (show CRow w1 w0.heap.size v1 xs from r1).cells
    have R1 : Hid (CRow w1 w0.heap.size (.slice ga xs.length gc) xs) := r1
    have hn8 := (row_iff.1 (Bool.and_eq_true_iff.1 hok).1).2.1
    have hn1 := (row_iff.1 (Bool.and_eq_true_iff.1 hok).1).1
    clear r1
    have HSAME : Hid ((x < 0 ∨ xs.length ≤ x ∨ m < 1) → deleteP xs x m f b = xs) := fun h => by unfold deleteP; rw [hok, if_pos rfl, if_pos h]
    have HOKT := Lib.hid hok
    clear hok
    cases hx0 : decide (x < 0) with
    | true =>
      have HF := Lib.hid (HSAME.out (.inl (of_decide_eq_true hx0)))
      go_wp2_with fail
      go_ret
      exact ⟨_, rfl, by rw [HF.out]; exact R1.out.up B0.out.size, B1.out⟩
    | false =>
      cases hx1 : decide ((xs.length : Int) ≤ x) with
      | true =>
        have HF := Lib.hid (HSAME.out (.inr (.inl (of_decide_eq_true hx1))))
        go_wp2_with fail
        go_ret
        exact ⟨_, rfl, by rw [HF.out]; exact R1.out.up B0.out.size, B1.out⟩
      | false =>
        cases hm1 : decide (m < 1) with
        | true =>
          have HF := Lib.hid (HSAME.out (.inr (.inr (of_decide_eq_true hm1))))
          go_wp2_with fail
          go_ret
          exact ⟨_, rfl, by rw [HF.out]; exact R1.out.up B0.out.size, B1.out⟩
        | false =>
          have q0 := of_decide_eq_false hx0
          have q1 := of_decide_eq_false hx1
          have q2 := of_decide_eq_false hm1
          obtain ⟨k, rfl⟩ : ∃ k : Nat, x = k := ⟨x.toNat, by omega⟩
          have hkn : k < xs.length := by omega
          obtain ⟨j, hj⟩ : ∃ j : Nat, min m ((xs.length : Int) - k) = j := ⟨(min m ((xs.length : Int) - k)).toNat, by omega⟩
          have HJ := Lib.hid hj
          have hj1 : 1 ≤ j := by omega
          have hj2 : k + j ≤ xs.length := by omega
          obtain ⟨g, rfl⟩ := crow_addr R1.out (by omega)
          have hbg : w0.heap.size ≤ g := (crow_at R1.out (k := 0) (by omega)).2.1
          have hne : some w.heap.size ≠ some g := fun e => by injection e with e; omega
          clear hj
          go_upto_region 4 with fail
          go_cut [2] (fun v wc => v = .int .i64 j ∧ w1 = wc)
          case first =>
            have hj := HJ.out
            go_wp2_with fail
            all_goals (go_meet; exact ⟨congrArg (Value.int .i64) (by omega), rfl⟩)
          case rest =>
            obtain ⟨rfl, rfl⟩ := hcut
            have HF : Hid (deleteP xs k m f b = fillP (shiftP (cutP (cutP xs k) (k + j)) k (k + j) (xs.length - (k + j))) (xs.length - j) (blank b) j) := by
              unfold deleteP
              rw [HOKT.out, if_pos rfl, if_neg (by omega), HJ.out]
              rfl
            clear q0 q1 q2 hx0 hx1 hm1
            go_wp2_with fail
            refine (cut_as w0.heap.size g xs.length gc (k) (xs) _ R1.out hn8 (by omega) rfl).mono ?_
            rintro e w2 ⟨rfl, r2, g2⟩
            have R2 := Lib.hid r2
            have B2 : Hid (Below w.heap.size w w2) := below_grown B1.out g2 (by omega) B1.out.size
            have P2 : Hid (Own w2 w.heap.size 26 #[.int .u32 f, .int .u32 b, .int .u8 d, .int .u16 l]) := P1.out.grown g2 hne
            have hz2 : w0.heap.size ≤ w2.heap.size := Nat.le_trans hz1 g2.size
            clear r2 g2
            go_wp2_with fail
            refine (cut_as w0.heap.size g xs.length gc (k + j) (cutP xs k) _ R2.out hn8 (by omega) (by omega)).mono ?_
            rintro e w3 ⟨rfl, r3, g3⟩
            have R3 := Lib.hid r3
            have B3 : Hid (Below w.heap.size w w3) := below_grown B2.out g3 (by omega) B2.out.size
            have P3 : Hid (Own w3 w.heap.size 26 #[.int .u32 f, .int .u32 b, .int .u8 d, .int .u16 l]) := P2.out.grown g3 hne
            have hz3 : w0.heap.size ≤ w3.heap.size := Nat.le_trans hz2 g3.size
            clear r3 g3
            obtain ⟨Y, hY⟩ : ∃ Y, cutP (cutP xs k) (k + j) = Y := ⟨_, rfl⟩
            have hYl : Hid (Y.length = xs.length) := by rw [← hY, cutP_len, cutP_len]; rfl
            rw [hY] at R3 HF
            clear hY
            clear R2 P2 B2 hz2 R1 P1 B1 hz1
            have R3D : Hid (CRow w3.drew w0.heap.size (.slice (some ⟨g, 0, none⟩) xs.length gc) Y) := R3.out
            have hcap := crow_cap R3.out (by omega)
            have hi0 : (0 : Int) ≤ (k : Int) + j := by omega
            have hi1 : (k : Int) + j ≤ xs.length := by omega
            have hi2 : (k : Int) ≤ xs.length := by omega
            go_upto_region 7 with fail
            go_cut [2] (fun v wc => v = .int .i64 j ∧ Hid (CRow wc w0.heap.size (.slice (some ⟨g, 0, none⟩) xs.length gc) (shiftP Y k (k + j) (xs.length - (k + j))) ∧ w3.drew.grownBy wc (some g)))
            case first =>
              refine wp_region_bits_at (S := fun _ => True) [(0, true), (1, true), (2, true), (3, true), (4, true), (5, true), (6, true), (7, true), (8, false)] [8] (by kernel_rfl) (by kernel_rfl) (fun c a d v w h => by cases d <;> exact h) True.intro ?_
              simp only [bits_, bitOf, List.getElem?_cons_zero, List.getElem?_cons_succ, List.contains_nil, List.contains_cons, Nat.reduceBEq, Bool.or_false]
              repeat (first | (refine bits_take (v := ?_) (by rfl) ?_ ?_; rotate_left; (· intro w' hS; skip; go_simp; (try (go_ints; try go_simp)); with_reducible rfl); (try simp only [Act.put, List.setIfInBounds_toArray, List.set_cons_zero, List.set_cons_succ])) | (refine bits_skip (by rfl) ?_; (try simp only [Act.put, List.setIfInBounds_toArray, List.set_cons_zero, List.set_cons_succ])))
              refine bits_tail (by rfl) (fun K hK => ?_)
              refine gshift_op _ _ rfl k (k + j) (xs.length - (k + j)) rfl rfl R3D.out ?_ ?_ ?_ ?_ ?_ fun w4 r4 g4' => ?_
              · show _ = min _ _; omega
              · omega
              · omega
              · exact fun h0 => if_neg (by omega)
              · exact fun h0 => if_neg (by omega)
              have R4 := Lib.hid r4
              have g4 := Lib.hid g4'
              clear r4 g4'
              refine hK _ _ ?_
              clear hK K
              (try simp only [Act.put])
              repeat (first | (refine bits_take (v := ?_) (by rfl) ?_ ?_; rotate_left; (· intro w' hS; skip; go_simp; (try (go_ints; try go_simp)); with_reducible rfl); (try simp only [Act.put, List.setIfInBounds_toArray, List.set_cons_zero, List.set_cons_succ])) | (refine bits_skip (by rfl) ?_; (try simp only [Act.put, List.setIfInBounds_toArray, List.set_cons_zero, List.set_cons_succ])))
              refine bits_nil ?_
              (try simp only [Act.put, List.setIfInBounds_toArray, List.set_cons_zero, List.set_cons_succ])
              refine Met.intro ?_
              go_step
              go_meet
              exact ⟨rfl, R4.out, g4.out⟩
            case rest =>
              obtain ⟨rfl, H4⟩ := hcut
              obtain ⟨Rc, g4⟩ : Hid (CRow wc w0.heap.size (.slice (some ⟨g, 0, none⟩) xs.length gc) (shiftP Y k (k + j) (xs.length - (k + j)))) ∧ Hid (w3.drew.grownBy wc (some g)) := ⟨H4.out.1, H4.out.2⟩
              have Pc : Hid (Own wc w.heap.size 26 #[.int .u32 f, .int .u32 b, .int .u8 d, .int .u16 l]) := (P3.out.draws 1).grown g4.out hne
              have Bc : Hid (Below w.heap.size w wc) := below_grown (below_drewN B3.out 1) g4.out (by omega) (by have := B3.out.size; exact this)
              have hzc : w0.heap.size ≤ wc.heap.size := Nat.le_trans hz3 g4.out.size
              obtain ⟨Z, hZ⟩ : ∃ Z, shiftP Y k (k + j) (xs.length - (k + j)) = Z := ⟨_, rfl⟩
              rw [hZ] at Rc HF
              clear hZ g4 H4 R3 R3D P3 B3 hz3 hi0 hi1 hi2
              obtain ⟨S, hS⟩ : ∃ S, xs.length - j = S := ⟨_, rfl⟩
              rw [hS] at HF
              have HS := Lib.hid hS
              have hSn : S ≤ xs.length := by omega
              clear hS
              have HL0 : Hid (FillRel w w0.heap.size g xs.length gc Z S b f d l 0 wc) := ⟨Rc.out, Pc.out, Bc.out, hzc⟩
              clear Rc Pc Bc hzc
              go_wp2_with fail
              go_loopw [10] (fun v wr => ∃ q : Nat, S ≤ q ∧ q ≤ xs.length ∧ v = .int .i64 q ∧ Hid (FillRel w w0.heap.size g xs.length gc Z S b f d l (q - S) wr)) (fun v _ => xs.length - (intOf v).toNat)
              case atStart => exact ⟨S, Nat.le_refl _, by omega, congrArg (Value.int .i64) (by have := HS.out; omega), by rw [Nat.sub_self]; exact HL0⟩
              case round =>
                obtain ⟨q, hq0, hq1, rfl, HR⟩ := hrel
                clear HL0
                by_cases hq : q < xs.length
                · have hqn : q < xs.length := by omega
                  have hi0 : (0 : Int) ≤ (q : Int) := by omega
                  have hi1 : (q : Int) < (xs.length : Int) := by omega
                  have e0 := Own.cell HR.out.2.1 0
                  have e1 := Own.cell HR.out.2.1 1
                  have e2 := Own.cell HR.out.2.1 2
                  have e3 := Own.cell HR.out.2.1 3
                  simp only [List.getElem?_toArray, List.getElem?_cons_zero, List.getElem?_cons_succ] at e0 e1 e2 e3
                  go_wp2_with fail
                  refine (blank_any f b d l _).mono ?_
                  rintro e wx ⟨rfl, bx⟩
                  have HX : Hid (FillRel w w0.heap.size g xs.length gc Z S b f d l (q - S) wx) := HR.out.below bx (by have := HR.out.2.2.2; omega) (by have := HR.out.2.2.2; omega)
                  clear bx HR
                  go_wp2_with (first
                    | (refine gstore_list rfl _ _ rfl (d := blank b) rfl rfl HX.out.1 hqn ?_; intro wy r5 g5; have HY' : Hid (FillRel w w0.heap.size g xs.length gc Z S b f d l (q + 1 - S) wy) := HX.out.next hq0 r5 g5 hne (by omega); clear r5 g5 e0 e1 e2 e3)
                    | go_in)
                  go_roundw
                  case rel => exact ⟨q + 1, by omega, by omega, by go_num, HY'⟩
                  case measure => simp [intOf]; omega
                · have hqT : Hid (q = xs.length) := (by omega : q = xs.length)
                  have hdq : decide (q < xs.length) = false := decide_eq_false hq
                  have HF2 : Hid (deleteP xs k m f b = fillP Z S (blank b) (q - S)) := by rw [HF.out, show j = q - S from by have := HS.out; have := hqT.out; omega]; rfl
                  go_wp2_with fail
                  go_ret
                  exact ⟨_, rfl, by rw [HF2.out]; exact HR.out.1.up B0.out.size, HR.out.2.2.1⟩
end Go.Proofs.YtlhcehealjdbdaaDoor
