/- A rune put at a place. -/
import Derived.Test.YtlhcehealjdbdaaDoorOwn
import Derived.Deep.DeepCutAuto
namespace Go.Proofs.YtlhcehealjdbdaaDoor
open Go.RowKit
attribute [local go_sem] alloc_drewN setCell_drewN


/-- The pen's values with a rune and a width. -/
noncomputable def putP (xs : List Glyph) (x r f b d l : Int) : List Glyph :=
  if (rowMay xs && penMay f b) = true then
    if x < 0 ∨ width r = 0 ∨ (xs.length : Int) - width r < x then xs
    else if width r = 2 then ((cutP (cutP xs x.toNat) (x.toNat + 2)).set x.toNat ⟨r, 1, f, b, d, l⟩).set (x.toNat + 1) ⟨0, 2, f, b, d, l⟩
    else (cutP (cutP xs x.toNat) (x.toNat + 1)).set x.toNat ⟨r, 0, f, b, d, l⟩
  else []
def InkAt (w : World) (g : Nat) (f b d l : Int) : Prop := w.cell? ⟨g, 0, none⟩ = some (.int .u32 f) ∧ w.cell? ⟨g, 1, none⟩ = some (.int .u32 b) ∧ w.cell? ⟨g, 2, none⟩ = some (.int .u8 d) ∧ w.cell? ⟨g, 3, none⟩ = some (.int .u16 l)
theorem ink_of {w : World} {g : Nat} {f b d l : Int} (h : Own w g 26 #[.int .u32 f, .int .u32 b, .int .u8 d, .int .u16 l]) : InkAt w g f b d l := ⟨h.cell 0, h.cell 1, h.cell 2, h.cell 3⟩
theorem cut_as (base g n c x : Nat) (xs : List Glyph) (w : World) (hr : CRow w base (.slice (some ⟨g, 0, none⟩) n c) xs) (hn : n ≤ 80) (hx : x ≤ 80) {X : Int} (hX : (x : Int) = X) : Calls Tryd.prog 49 #[.slice (some ⟨g, 0, none⟩) n c, .int .i64 X] w (CutPost base (.slice (some ⟨g, 0, none⟩) n c) (cutP xs x) g w) := by
  subst hX
  exact cut_any base g n c x xs w hr hn hx
theorem cutP_len (xs : List Glyph) (x : Nat) : (cutP xs x).length = xs.length := by unfold cutP; split <;> simp
set_option maxRecDepth 10000 in
set_option maxHeartbeats 2000000 in
theorem put_any (a : Option Addr) (n c : Nat) (x r f b d l : Int) (xs : List Glyph) (w : World) (hl : Cells w a n xs) (ht : Tabs w) : Calls Tryd.prog 44 #[.slice a n c, .int .i64 x, .int .i32 r, .agg #[.int .u32 f, .int .u32 b, .int .u8 d, .int .u16 l]] w (GPost (putP xs x r f b d l) w) := by
  obtain rfl := hl.1
  have HL := Lib.hid hl
  have HT := Lib.hid ht
  clear hl ht
  obtain ⟨ok, hok⟩ : ∃ ok, (rowMay xs && penMay f b) = ok := ⟨_, rfl⟩
  have HOK := Lib.hid hok
  have B0 : Hid (Below w.heap.size w (w.alloc (.cells #[.int .u32 f, .int .u32 b, .int .u8 d, .int .u16 l] 26))) := (Below.refl _ _).alloc (Nat.le_refl _) _
  have P0 : Hid (Own (w.alloc (.cells #[.int .u32 f, .int .u32 b, .int .u8 d, .int .u16 l] 26)) w.heap.size 26 #[.int .u32 f, .int .u32 b, .int .u8 d, .int .u16 l]) := Own.new w 26 _
  have hlt : w.heap.size < (w.alloc (.cells #[.int .u32 f, .int .u32 b, .int .u8 d, .int .u16 l] 26)).heap.size := by simp
  go_enter Tryd.func44, Tryd.ntmps44
  go_wp2_with fail
  generalize w.alloc (.cells #[.int .u32 f, .int .u32 b, .int .u8 d, .int .u16 l] 26) = w0 at B0 P0 hlt ⊢
  have HO := own_any a xs.length c f b d l xs w0 (HL.out.below B0.out) (HT.out.below B0.out)
  rw [HOK.out] at HO
  refine HO.mono ?_
  clear HO
  rintro e w1 ⟨v1, rfl, r1, b1⟩
  have B1 : Hid (Below w.heap.size w w1) := B0.out.trans (b1.mono B0.out.size)
  have P1 : Hid (Own w1 w.heap.size 26 #[.int .u32 f, .int .u32 b, .int .u8 d, .int .u16 l]) := P0.out.below b1 hlt
  have hz1 : w0.heap.size ≤ w1.heap.size := b1.size
  clear b1
  cases ok with
  | false =>
    have HF : Hid (putP xs x r f b d l = []) := by unfold putP; rw [hok]; rfl
    have R1 : Hid (CRow w1 w.heap.size v1 []) := CRow.up r1 B0.out.size
    clear r1 hok
    go_wp2_with fail
    refine (width_any r _ (HT.out.below B1.out)).mono ?_
    rintro e w2 ⟨rfl, b2⟩
    have R2 := Lib.hid (R1.out.below b2)
    have B2 : Hid (Below w.heap.size w w2) := B1.out.trans (b2.mono B1.out.size)
    clear b2
    go_wp2_with fail
    go_ret
    exact ⟨_, rfl, by rw [HF.out]; exact R2.out, B2.out⟩
  | true =>
    obtain ⟨ga, gc, rfl, _⟩ := (show CRow w1 w0.heap.size v1 xs from r1).cells
    have R1 : Hid (CRow w1 w0.heap.size (.slice ga xs.length gc) xs) := r1
    have hn8 := (row_iff.1 (Bool.and_eq_true_iff.1 hok).1).2.1
    have hn1 := (row_iff.1 (Bool.and_eq_true_iff.1 hok).1).1
    clear r1
    go_wp2_with fail
    refine (width_any r _ (HT.out.below B1.out)).mono ?_
    rintro e w2 ⟨rfl, b2⟩
    have R2 := Lib.hid (R1.out.below b2)
    have B2 : Hid (Below w.heap.size w w2) := B1.out.trans (b2.mono B1.out.size)
    have P2 : Hid (Own w2 w.heap.size 26 #[.int .u32 f, .int .u32 b, .int .u8 d, .int .u16 l]) := P1.out.below b2 (by omega)
    have hz2 : w0.heap.size ≤ w2.heap.size := Nat.le_trans hz1 b2.size
    obtain ⟨wd, hwd⟩ : ∃ wd, width r = wd := ⟨_, rfl⟩
    have HWD := Lib.hid hwd
    have hwo := width_or r
    rw [hwd] at hwo ⊢
    have HSAME : Hid ((x < 0 ∨ width r = 0 ∨ (xs.length : Int) - width r < x) → putP xs x r f b d l = xs) := fun h => by unfold putP; rw [hok, if_pos rfl, if_pos h]
    have HOKT := Lib.hid hok
    clear b2 hok hwd
    cases hx0 : decide (x < 0) with
    | true =>
      have HF := Lib.hid (HSAME.out (.inl (of_decide_eq_true hx0)))
      go_wp2_with fail
      go_ret
      exact ⟨_, rfl, by rw [HF.out]; exact R2.out.up B0.out.size, B2.out⟩
    | false =>
      cases hw0 : (wd == 0) with
      | true =>
        have HF := Lib.hid (HSAME.out (.inr (.inl (HWD.out.trans (eq_of_beq hw0)))))
        go_wp2_with fail
        go_ret
        exact ⟨_, rfl, by rw [HF.out]; exact R2.out.up B0.out.size, B2.out⟩
      | false =>
        cases hxw : decide ((xs.length : Int) - wd < x) with
        | true =>
          have HF := Lib.hid (HSAME.out (.inr (.inr (by rw [HWD.out]; exact of_decide_eq_true hxw))))
          go_wp2_with fail
          go_ret
          exact ⟨_, rfl, by rw [HF.out]; exact R2.out.up B0.out.size, B2.out⟩
        | false =>
          have q0 := of_decide_eq_false hx0
          have q1 := of_decide_eq_false hxw
          have q2 : wd ≠ 0 := by rintro rfl; cases hw0
          obtain ⟨k, rfl⟩ : ∃ k : Nat, x = k := ⟨x.toNat, by omega⟩
          have hkn : k < xs.length := by omega
          obtain ⟨g, rfl⟩ := crow_addr R2.out (by omega)
          have hbg : w0.heap.size ≤ g := (crow_at R2.out hkn).2.1
          have hne : some w.heap.size ≠ some g := fun e => by injection e with e; omega
          go_wp2_with fail
          refine (cut_any w0.heap.size g xs.length gc k xs _ R2.out hn8 (by omega)).mono ?_
          rintro e w3 ⟨rfl, r3, g3⟩
          have R3 := Lib.hid r3
          have B3 : Hid (Below w.heap.size w w3) := below_grown B2.out g3 (by omega) B2.out.size
          have P3 : Hid (Own w3 w.heap.size 26 #[.int .u32 f, .int .u32 b, .int .u8 d, .int .u16 l]) := P2.out.grown g3 hne
          have hz3 : w0.heap.size ≤ w3.heap.size := Nat.le_trans hz2 g3.size
          clear r3 g3
          rcases (by omega : wd = 1 ∨ wd = 2) with rfl | rfl
          · go_wp2_with fail
            refine (cut_as w0.heap.size g xs.length gc (k + 1) (cutP xs k) _ R3.out hn8 (by omega) (by rw [Int.natCast_add]; rfl)).mono ?_
            rintro e w4 ⟨rfl, r4, g4⟩
            obtain ⟨Y, hY⟩ : ∃ Y, cutP (cutP xs k) (k + 1) = Y := ⟨_, rfl⟩
            rw [hY] at r4
            have HY := Lib.hid hY
            have R4 := Lib.hid r4
            have B4 : Hid (Below w.heap.size w w4) := below_grown B3.out g4 (by omega) B3.out.size
            have P4 : Hid (Own w4 w.heap.size 26 #[.int .u32 f, .int .u32 b, .int .u8 d, .int .u16 l]) := P3.out.grown g4 hne
            have hz4 : w0.heap.size ≤ w4.heap.size := Nat.le_trans hz3 g4.size
            have e0 := Own.cell P4.out 0
            have e1 := Own.cell P4.out 1
            have e2 := Own.cell P4.out 2
            have e3 := Own.cell P4.out 3
            simp only [List.getElem?_toArray, List.getElem?_cons_zero, List.getElem?_cons_succ] at e0 e1 e2 e3
            clear r4 g4 hY
            go_wp2_with (first
              | (refine gstore_list rfl _ _ rfl (d := ⟨r, 0, f, b, d, l⟩) rfl rfl R4.out hkn ?_; intro w5 r5 g5; have R5 := Lib.hid r5; have B5 : Hid (Below w.heap.size w w5) := below_grown B4.out g5 (by omega) B4.out.size; have P5 : Hid (Own w5 w.heap.size 26 #[.int .u32 f, .int .u32 b, .int .u8 d, .int .u16 l]) := P4.out.grown g5 hne; have hz5 : w0.heap.size ≤ w5.heap.size := Nat.le_trans hz4 g5.size; clear r5 g5 e0 e1 e2 e3)
              | go_in)
            have HF : Hid (putP xs k r f b d l = Y.set k ⟨r, 0, f, b, d, l⟩) := by
              unfold putP
              rw [HOKT.out, if_pos rfl, if_neg (by rw [HWD.out]; omega), if_neg (by rw [HWD.out]; omega), Int.toNat_natCast, HY.out]
              rfl
            go_ret
            exact ⟨_, rfl, by rw [HF.out]; exact R5.out.up B0.out.size, B5.out⟩
          · go_wp2_with fail
            refine (cut_as w0.heap.size g xs.length gc (k + 2) (cutP xs k) _ R3.out hn8 (by omega) (by rw [Int.natCast_add]; rfl)).mono ?_
            rintro e w4 ⟨rfl, r4, g4⟩
            obtain ⟨Y, hY⟩ : ∃ Y, cutP (cutP xs k) (k + 2) = Y := ⟨_, rfl⟩
            rw [hY] at r4
            have HY := Lib.hid hY
            have R4 := Lib.hid r4
            have B4 : Hid (Below w.heap.size w w4) := below_grown B3.out g4 (by omega) B3.out.size
            have P4 : Hid (Own w4 w.heap.size 26 #[.int .u32 f, .int .u32 b, .int .u8 d, .int .u16 l]) := P3.out.grown g4 hne
            have hz4 : w0.heap.size ≤ w4.heap.size := Nat.le_trans hz3 g4.size
            have e0 := Own.cell P4.out 0
            have e1 := Own.cell P4.out 1
            have e2 := Own.cell P4.out 2
            have e3 := Own.cell P4.out 3
            simp only [List.getElem?_toArray, List.getElem?_cons_zero, List.getElem?_cons_succ] at e0 e1 e2 e3
            clear r4 g4 hY
            go_wp2_with (first
              | (refine gstore_list rfl _ _ rfl (d := ⟨r, 0, f, b, d, l⟩) rfl rfl R4.out hkn ?_; intro w5 r5 g5; have R5 := Lib.hid r5; have B5 : Hid (Below w.heap.size w w5) := below_grown B4.out g5 (by omega) B4.out.size; have P5 : Hid (Own w5 w.heap.size 26 #[.int .u32 f, .int .u32 b, .int .u8 d, .int .u16 l]) := P4.out.grown g5 hne; have hz5 : w0.heap.size ≤ w5.heap.size := Nat.le_trans hz4 g5.size; clear r5 g5 e0 e1 e2 e3)
              | go_in)
            have HF : Hid (putP xs k r f b d l = (Y.set k ⟨r, 1, f, b, d, l⟩).set (k + 1) ⟨0, 2, f, b, d, l⟩) := by
              unfold putP
              rw [HOKT.out, if_pos rfl, if_neg (by rw [HWD.out]; omega), if_pos (by rw [HWD.out]), Int.toNat_natCast, HY.out]
              rfl
            have hYl : Y.length = xs.length := by rw [← HY.out, cutP_len, cutP_len]
            have hk1 : k + 1 < xs.length := by omega
            have hix0 : (0 : Int) ≤ (k : Int) + 1 := by omega
            have hix1 : (k : Int) + 1 < xs.length := by omega
            have HS0 : Hid (InkAt w5.drew w.heap.size f b d l) := ink_of P5.out
            have R5D : Hid (CRow w5.drew w0.heap.size (.slice (some ⟨g, 0, none⟩) xs.length gc) (Y.set k ⟨r, 0, f, b, d, l⟩)) := R5.out
            have hset : List.getD (Y.set k (⟨r, 0, f, b, d, l⟩ : Glyph)) k g0 = ⟨r, 0, f, b, d, l⟩ := set_getD (by omega)
            have HYL := Lib.hid hYl
            have HSET := Lib.hid hset
            clear hYl hset
            refine wp_region_bits_at (S := fun w' => InkAt w' w.heap.size f b d l) [(0, true), (1, true), (2, true), (3, true), (4, true), (5, true), (6, true), (7, true), (8, true), (9, false), (10, true), (11, false)] [11] (by kernel_rfl) (by kernel_rfl) (fun c a d v w h => by cases d <;> exact h) HS0.out ?_
            simp only [bits_, bitOf, List.getElem?_cons_zero, List.getElem?_cons_succ, List.contains_nil, List.contains_cons, Nat.reduceBEq, Bool.or_false]
            repeat (first | (refine bits_take (v := ?_) (by rfl) ?_ ?_; rotate_left; (· intro w' hS; obtain ⟨s0, s1, s2, s3⟩ := hS; go_simp; (try (go_ints; try go_simp)); with_reducible rfl); (try simp only [Act.put, List.setIfInBounds_toArray, List.set_cons_zero, List.set_cons_succ])) | (refine bits_skip (by rfl) ?_; (try simp only [Act.put, List.setIfInBounds_toArray, List.set_cons_zero, List.set_cons_succ])))
            refine bits_eff (by rfl) (fun K hK => ?_)
            refine gwide_op _ _ rfl rfl rfl R5D.out hkn HSET.out fun w6 r6 g6' => ?_
            rw [List.set_set] at r6
            have R6 := Lib.hid r6
            have g6 := Lib.hid g6'
            clear r6 g6'
            refine hK _ _ ?_ ?_
            · exact ink_of ((P5.out.draws 1).grown g6.out hne)
            clear hK K
            (try simp only [Act.put])
            repeat (first | (refine bits_take (v := ?_) (by rfl) ?_ ?_; rotate_left; (· intro w' hS; obtain ⟨s0, s1, s2, s3⟩ := hS; go_simp; (try (go_ints; try go_simp)); with_reducible rfl); (try simp only [Act.put, List.setIfInBounds_toArray, List.set_cons_zero, List.set_cons_succ])) | (refine bits_skip (by rfl) ?_; (try simp only [Act.put, List.setIfInBounds_toArray, List.set_cons_zero, List.set_cons_succ])))
            refine bits_tail (by rfl) (fun K hK => ?_)
            refine gstore_op _ _ rfl (k := k + 1) (d := ⟨0, 2, f, b, d, l⟩) rfl rfl R6.out hk1 fun w7 r7 g7' => ?_
            have R7 := Lib.hid r7
            have g7 := Lib.hid g7'
            clear r7 g7'
            refine hK _ _ ?_
            clear hK K
            (try simp only [Act.put])
            repeat (first | (refine bits_take (v := ?_) (by rfl) ?_ ?_; rotate_left; (· intro w' hS; obtain ⟨s0, s1, s2, s3⟩ := hS; go_simp; (try (go_ints; try go_simp)); with_reducible rfl); (try simp only [Act.put, List.setIfInBounds_toArray, List.set_cons_zero, List.set_cons_succ])) | (refine bits_skip (by rfl) ?_; (try simp only [Act.put, List.setIfInBounds_toArray, List.set_cons_zero, List.set_cons_succ])))
            refine bits_nil ?_
            have R7X : Hid (CRow w7 w0.heap.size (.slice (some ⟨g, 0, none⟩) xs.length gc) (putP xs k r f b d l)) := by rw [HF.out]; exact R7.out
            have B7 : Hid (Below w.heap.size w w7) := below_grown (below_grown (below_drewN B5.out 1) g6.out (by omega) (by have := B5.out.size; exact this)) g7.out (by omega) (Nat.le_trans B5.out.size g6.out.size)
            go_wp2_with fail
            go_ret
            exact ⟨_, rfl, R7X.out.up B0.out.size, B7.out⟩
end Go.Proofs.YtlhcehealjdbdaaDoor
