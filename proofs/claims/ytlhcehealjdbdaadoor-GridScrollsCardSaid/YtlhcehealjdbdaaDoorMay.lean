/- Which cells may be. -/
import Derived.Test.YtlhcehealjdbdaaDoorSmall
import Derived.Deep.DeepCutAuto
namespace Go.Proofs.YtlhcehealjdbdaaDoor
open Go.RowKit
attribute [local go_sem] alloc_drewN setCell_drewN


set_option maxHeartbeats 1000000 in
theorem may_any (c : Glyph) (w : World) (ht : Tabs w) : Calls Tryd.prog 18 #[(.agg #[.int .i32 c.r, .int .u8 c.w, .int .u32 c.f, .int .u32 c.b, .int .u8 c.a, .int .u16 c.l])] w (RVal (.bool (gmay c)) w) := by
  obtain ⟨pm, hp⟩ : ∃ x, penMay c.f c.b = x := ⟨_, rfl⟩
  have HP := Lib.hid hp
  have hob := Own.new w 28 #[.int .i32 c.r, .int .u8 c.w, .int .u32 c.f, .int .u32 c.b, .int .u8 c.a, .int .u16 c.l]
  have B0 : Hid (Below w.heap.size w (w.alloc (.cells #[.int .i32 c.r, .int .u8 c.w, .int .u32 c.f, .int .u32 c.b, .int .u8 c.a, .int .u16 c.l] 28))) := (Below.refl _ _).alloc (Nat.le_refl _) _
  have hlt : w.heap.size < (w.alloc (.cells #[.int .i32 c.r, .int .u8 c.w, .int .u32 c.f, .int .u32 c.b, .int .u8 c.a, .int .u16 c.l] 28)).heap.size := by simp
  have HT := Lib.hid ht
  clear hp ht
  go_enter Tryd.func18, Tryd.ntmps18
  go_wp2_with fail
  refine (RVal.as (pen_any c.f c.b c.a c.l _) (congrArg Value.bool HP.out)).mono ?_
  rintro e w1 ⟨rfl, b1⟩
  have B1 : Hid (Below w.heap.size w w1) := B0.out.trans (b1.mono B0.out.size)
  have hlt1 : w.heap.size < w1.heap.size := Nat.lt_of_lt_of_le hlt b1.size
  have ho1 := hob.below b1 hlt
  have e0 := Own.cell ho1 0
  have e1 := Own.cell ho1 1
  have HO1 := Lib.hid ho1
  simp only [List.getElem?_toArray, List.getElem?_cons_zero, List.getElem?_cons_succ] at e0 e1
  clear ho1 hob b1
  cases pm with
  | false =>
    have HZ : Hid (gmay c = false) := by unfold gmay; rw [HP.out]; rfl
    go_wp2_with fail
    go_ret
    exact ⟨by rw [HZ.out]; rfl, B1.out⟩
  | true =>
    by_cases h0 : c.w = 0
    · have hd0 : (c.w == 0) = true := beq_iff_eq.2 h0
      have HZ : Hid (gmay c = (width c.r == 1)) := by unfold gmay; rw [HP.out, if_pos h0]; rfl
      clear h0
      go_wp2_with fail
      refine (width_any c.r _ (HT.out.below B1.out)).mono ?_
      rintro e w2 ⟨rfl, b2⟩
      have B2 := Lib.hid (B1.out.trans (b2.mono B1.out.size))
      clear b2
      go_wp2_with fail
      go_ret
      exact ⟨by rw [HZ.out]; rfl, B2.out⟩
    · have hd0 : (c.w == 0) = false := beq_eq_false_iff_ne.2 h0
      by_cases h1 : c.w = 1
      · have hd1 : (c.w == 1) = true := beq_iff_eq.2 h1
        have HZ : Hid (gmay c = (width c.r == 2)) := by unfold gmay; rw [HP.out, if_neg h0, if_pos h1]; rfl
        clear h0 h1
        go_wp2_with fail
        refine (width_any c.r _ (HT.out.below B1.out)).mono ?_
        rintro e w2 ⟨rfl, b2⟩
        have B2 := Lib.hid (B1.out.trans (b2.mono B1.out.size))
        clear b2
        go_wp2_with fail
        go_ret
        exact ⟨by rw [HZ.out]; rfl, B2.out⟩
      · have hd1 : (c.w == 1) = false := beq_eq_false_iff_ne.2 h1
        have HZ : Hid (gmay c = (c.w == 2 && c.r == 0)) := by unfold gmay; rw [HP.out, if_neg h0, if_neg h1]; rfl
        clear h0 h1
        cases hd2 : (c.w == 2) with
        | true =>
          rw [hd2] at HZ
          go_wp2_with fail
          go_ret
          exact ⟨by rw [HZ.out]; rfl, B1.out⟩
        | false =>
          rw [hd2] at HZ
          go_wp2_with fail
          go_ret
          exact ⟨by rw [HZ.out]; rfl, B1.out⟩
set_option maxHeartbeats 1000000 in
theorem ref_may_any (c : Glyph) (w : World) : Calls Tryd.prog 19 #[(.agg #[.int .i32 c.r, .int .u8 c.w, .int .u32 c.f, .int .u32 c.b, .int .u8 c.a, .int .u16 c.l])] w (RVal (.bool (gmay c)) w) := by
  obtain ⟨pm, hp⟩ : ∃ x, penMay c.f c.b = x := ⟨_, rfl⟩
  have HP := Lib.hid hp
  have hob := Own.new w 28 #[.int .i32 c.r, .int .u8 c.w, .int .u32 c.f, .int .u32 c.b, .int .u8 c.a, .int .u16 c.l]
  have B0 : Hid (Below w.heap.size w (w.alloc (.cells #[.int .i32 c.r, .int .u8 c.w, .int .u32 c.f, .int .u32 c.b, .int .u8 c.a, .int .u16 c.l] 28))) := (Below.refl _ _).alloc (Nat.le_refl _) _
  have hlt : w.heap.size < (w.alloc (.cells #[.int .i32 c.r, .int .u8 c.w, .int .u32 c.f, .int .u32 c.b, .int .u8 c.a, .int .u16 c.l] 28)).heap.size := by simp
  clear hp
  go_enter Tryd.func19, Tryd.ntmps19
  go_wp2_with fail
  refine (ref_width_any c.r _).mono ?_
  rintro e w1 ⟨rfl, rfl⟩
  go_wp2_with fail
  refine (RVal.as (ref_pen_any c.f c.b c.a c.l _) (congrArg Value.bool HP.out)).mono ?_
  rintro e w1 ⟨rfl, b1⟩
  have B1 : Hid (Below w.heap.size w w1) := B0.out.trans (b1.mono B0.out.size)
  have ho1 := hob.below b1 hlt
  have e0 := Own.cell ho1 0
  have e1 := Own.cell ho1 1
  simp only [List.getElem?_toArray, List.getElem?_cons_zero, List.getElem?_cons_succ] at e0 e1
  clear ho1 hob b1
  cases pm with
  | false =>
    have HZ : Hid (gmay c = false) := by unfold gmay; rw [HP.out]; rfl
    go_wp2_with fail
    go_ret
    exact ⟨by rw [HZ.out]; rfl, B1.out⟩
  | true =>
    by_cases h0 : c.w = 0
    · have hd0 : (c.w == 0) = true := beq_iff_eq.2 h0
      have hd1 : (c.w == 1) = false := by rw [h0]; rfl
      have hd2 : (c.w == 2) = false := by rw [h0]; rfl
      have HZ : Hid (gmay c = (width c.r == 1)) := by unfold gmay; rw [HP.out, if_pos h0]; rfl
      clear h0
      cases hw : (width c.r == 1) with
      | true =>
        rw [hw] at HZ
        go_wp2_with fail
        go_ret
        exact ⟨by rw [HZ.out]; rfl, B1.out⟩
      | false =>
        rw [hw] at HZ
        go_wp2_with fail
        go_ret
        exact ⟨by rw [HZ.out]; rfl, B1.out⟩
    · have hd0 : (c.w == 0) = false := beq_eq_false_iff_ne.2 h0
      by_cases h1 : c.w = 1
      · have hd1 : (c.w == 1) = true := beq_iff_eq.2 h1
        have hd2 : (c.w == 2) = false := by rw [h1]; rfl
        have HZ : Hid (gmay c = (width c.r == 2)) := by unfold gmay; rw [HP.out, if_neg h0, if_pos h1]; rfl
        clear h0 h1
        cases hw : (width c.r == 2) with
        | true =>
          rw [hw] at HZ
          go_wp2_with fail
          go_ret
          exact ⟨by rw [HZ.out]; rfl, B1.out⟩
        | false =>
          rw [hw] at HZ
          go_wp2_with fail
          go_ret
          exact ⟨by rw [HZ.out]; rfl, B1.out⟩
      · have hd1 : (c.w == 1) = false := beq_eq_false_iff_ne.2 h1
        have HZ : Hid (gmay c = (c.w == 2 && c.r == 0)) := by unfold gmay; rw [HP.out, if_neg h0, if_neg h1]; rfl
        clear h0 h1
        cases hd2 : (c.w == 2) with
        | true =>
          rw [hd2] at HZ
          go_wp2_with fail
          go_ret
          exact ⟨by rw [HZ.out]; rfl, B1.out⟩
        | false =>
          rw [hd2] at HZ
          go_wp2_with fail
          go_ret
          exact ⟨by rw [HZ.out]; rfl, B1.out⟩
end Go.Proofs.YtlhcehealjdbdaaDoor
