/- Are two rows of cells the same? -/
import Derived.Test.YtlhcehealjdbdaaDoorGlyphOps
namespace Go.Proofs.YtlhcehealjdbdaaDoor
open Go.RowKit
attribute [local go_sem] alloc_drewN setCell_drewN
theorem glyph_eq (x y : Glyph) : (decide (x = y)) = (x.r == y.r && x.w == y.w && x.f == y.f && x.b == y.b && x.a == y.a && x.l == y.l) := by
  obtain ⟨x0, x1, x2, x3, x4, x5⟩ := x
  obtain ⟨y0, y1, y2, y3, y4, y5⟩ := y
  rw [Bool.eq_iff_iff]
  simp [and_assoc]
theorem gneq (x y : Glyph) (W : World) : (binOp .neq 28 (.agg #[.int .i32 x.r, .int .u8 x.w, .int .u32 x.f, .int .u32 x.b, .int .u8 x.a, .int .u16 x.l]) (.agg #[.int .i32 y.r, .int .u8 y.w, .int .u32 y.f, .int .u32 y.b, .int .u8 y.a, .int .u16 y.l])).run Tryd.prog W = .ok (.bool (!decide (x = y))) W := by
  rw [glyph_eq]
  go_simp
  by_cases h0 : x.r = y.r <;> by_cases h1 : x.w = y.w <;> by_cases h2 : x.f = y.f <;> by_cases h3 : x.b = y.b <;> by_cases h4 : x.a = y.a <;> by_cases h5 : x.l = y.l <;> simp [h0, h1, h2, h3, h4, h5]
theorem gneq_yes {x y : Glyph} (h : x ≠ y) (W : World) : (binOp .neq 28 (.agg #[.int .i32 x.r, .int .u8 x.w, .int .u32 x.f, .int .u32 x.b, .int .u8 x.a, .int .u16 x.l]) (.agg #[.int .i32 y.r, .int .u8 y.w, .int .u32 y.f, .int .u32 y.b, .int .u8 y.a, .int .u16 y.l])).run Tryd.prog W = .ok (.bool true) W := by rw [gneq, decide_eq_false h]; rfl
set_option maxHeartbeats 400000 in
theorem gsame_any (a b : Option Addr) (n c k d : Nat) (xs ys : List Glyph) (w : World) (hl : Cells w a n xs) (hk : Cells w b k ys) : Calls Tryd.prog 24 #[.slice a n c, .slice b k d] w (GBPost (decide (xs = ys)) w) := by
  have HL := Lib.hid hl
  have HK := Lib.hid hk
  have hn := hl.2.1
  have hkn := hk.2.1
  obtain rfl := hl.1
  obtain rfl := hk.1
  clear hl hk
  by_cases hlen : xs.length = ys.length
  · have hb : ((xs.length : Int) == (ys.length : Int)) = true := by rw [hlen]; exact beq_self_eq_true _
    have HLEN := Lib.hid hlen
    have hle : xs.length ≤ ys.length := by omega
    clear hlen
    go_enter Tryd.func24, Tryd.ntmps24
    go_wp2_with fail
    go_loopw [13] (fun i wr => ∃ (q m : Nat), q ≤ xs.length ∧ i = .int .i64 q ∧ wr = w.drewN m ∧ Hid (∀ j, j < q → xs.getD j g0 = ys.getD j g0)) (fun i _ => xs.length - (intOf i).toNat)
    case atStart => exact ⟨0, 0, by omega, rfl, rfl, fun j h => absurd h (by omega)⟩
    case round =>
      obtain ⟨q, m, hq, rfl, rfl, HA⟩ := hrel
      by_cases hqn : q < xs.length
      · obtain ⟨b1, o1, rfl, hb1, hc1⟩ := HL.out.2.2 (by omega)
        obtain ⟨b2, o2, rfl, hb2, hc2⟩ := HK.out.2.2 (by omega)
        have e1 := hc1 q hqn
        have e2 := hc2 q (by omega)
        have hq2 : q < ys.length := by omega
        obtain ⟨x, hxe⟩ : ∃ x, x = xs.getD q g0 := ⟨_, rfl⟩
        obtain ⟨y, hye⟩ : ∃ x, x = ys.getD q g0 := ⟨_, rfl⟩
        have HXE := Lib.hid hxe
        have HYE := Lib.hid hye
        rw [← hxe] at e1
        rw [← hye] at e2
        clear hc1 hc2 hxe hye
        obtain ⟨p0, p1, p2, p3, p4, p5⟩ := e1
        obtain ⟨r0, r1, r2, r3, r4, r5⟩ := e2
        by_cases hx : x = y
        · subst hx
          have hnew : Hid (∀ j, j < q + 1 → xs.getD j g0 = ys.getD j g0) := fun j hj => by
            rcases Nat.lt_or_ge j q with h1 | h1
            · exact HA.out j h1
            · obtain rfl : j = q := by omega
              rw [← HXE.out, ← HYE.out]
          go_wp2_with fail
          refine wp_region_bits [(0, true), (1, true), (2, true), (3, true), (4, true), (5, true), (6, true), (7, true), (8, true)] [] (by kernel_rfl) (by kernel_rfl) (fun c a d v w h => by cases d <;> exact h) ?_
          simp only [bits_, bitOf, List.getElem?_cons_zero, List.getElem?_cons_succ, List.contains_nil]
          repeat (first
            | (refine bits_take (v := ?_) (by rfl) ?_ ?_; rotate_left; (· intro w' hS; go_simp; (repeat (rw [hS.at_]; rotate_left; (· go_simp); go_simp)); (try (go_ints; try go_simp)); with_reducible rfl); (try simp only [Act.put, List.setIfInBounds_toArray, List.set_cons_zero, List.set_cons_succ]))
            | (refine bits_skip (by rfl) ?_; (try simp only [Act.put, List.setIfInBounds_toArray, List.set_cons_zero, List.set_cons_succ]))
            | (refine bits_pass (by rfl) ?_ ?_; (· repeat (first | (with_reducible (first | exact Keep.refl _ | refine Keep.left _ ?_ | refine Keep.drew ?_ | refine Keep.drewN ?_ _ | refine Keep.alloc ?_ _)) | (refine Keep.below ?_ (by with_reducible assumption)))); (try simp only [Act.put, List.setIfInBounds_toArray, List.set_cons_zero, List.set_cons_succ]))
            | (refine bits_eff (by rfl) (fun K hK => ?_); go_simp; (try go_ints); (first | go_at_K); refine hK _ _ ?_ ?_; (· repeat (first | (with_reducible (first | exact Keep.refl _ | refine Keep.left _ ?_ | refine Keep.drew ?_ | refine Keep.drewN ?_ _ | refine Keep.alloc ?_ _)) | (refine Keep.below ?_ (by with_reducible assumption)))); clear hK K; (try simp only [Act.put, List.setIfInBounds_toArray, List.set_cons_zero, List.set_cons_succ])))
          refine bits_nil ?_
          go_wp2_with fail
          go_roundw
          case rel => exact ⟨q + 1, m + 1, by omega, by go_num, by simp, hnew⟩
          case measure => simp [intOf]; omega
        · have hx' := gneq_yes hx
          have HD := Lib.hid (decide_eq_false (show ¬ xs = ys from fun h => hx (by rw [HXE.out, HYE.out, h])))
          clear hx
          go_wp2_with fail
          refine wp_region_bits [(0, true), (1, true), (2, true), (3, true), (4, true), (5, true), (6, true), (7, true), (8, true)] [] (by kernel_rfl) (by kernel_rfl) (fun c a d v w h => by cases d <;> exact h) ?_
          simp only [bits_, bitOf, List.getElem?_cons_zero, List.getElem?_cons_succ, List.contains_nil]
          repeat (first
            | (refine bits_take (v := ?_) (by rfl) ?_ ?_; rotate_left; (· intro w' hS; go_simp; (repeat (rw [hS.at_]; rotate_left; (· go_simp); go_simp)); (try (go_ints; try go_simp)); with_reducible rfl); (try simp only [Act.put, List.setIfInBounds_toArray, List.set_cons_zero, List.set_cons_succ]))
            | (refine bits_skip (by rfl) ?_; (try simp only [Act.put, List.setIfInBounds_toArray, List.set_cons_zero, List.set_cons_succ]))
            | (refine bits_pass (by rfl) ?_ ?_; (· repeat (first | (with_reducible (first | exact Keep.refl _ | refine Keep.left _ ?_ | refine Keep.drew ?_ | refine Keep.drewN ?_ _ | refine Keep.alloc ?_ _)) | (refine Keep.below ?_ (by with_reducible assumption)))); (try simp only [Act.put, List.setIfInBounds_toArray, List.set_cons_zero, List.set_cons_succ]))
            | (refine bits_eff (by rfl) (fun K hK => ?_); go_simp; (try go_ints); (first | go_at_K); refine hK _ _ ?_ ?_; (· repeat (first | (with_reducible (first | exact Keep.refl _ | refine Keep.left _ ?_ | refine Keep.drew ?_ | refine Keep.drewN ?_ _ | refine Keep.alloc ?_ _)) | (refine Keep.below ?_ (by with_reducible assumption)))); clear hK K; (try simp only [Act.put, List.setIfInBounds_toArray, List.set_cons_zero, List.set_cons_succ])))
          refine bits_nil ?_
          go_wp2_with fail
          go_ret
          exact ⟨by rw [HD.out]; rfl, m + 1, by simp⟩
      · obtain rfl : q = xs.length := by omega
        have HD := Lib.hid (decide_eq_true (gext HLEN.out HA.out))
        go_wp2_with fail
        go_ret
        exact ⟨by rw [HD.out]; rfl, m, rfl⟩
  · have hb : ((xs.length : Int) == (ys.length : Int)) = false := beq_eq_false_iff_ne.2 (fun h => hlen (by omega))
    have HD := Lib.hid (decide_eq_false (show ¬ xs = ys from fun h => hlen (by rw [h])))
    clear hlen
    go_enter Tryd.func24, Tryd.ntmps24
    go_wp2_with fail
    go_ret
    exact ⟨by rw [HD.out]; rfl, 0, rfl⟩
end Go.Proofs.YtlhcehealjdbdaaDoor
