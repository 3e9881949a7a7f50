/- Part 3 of the texts that GridPlays stands on, one behind the other. -/
import Derived.Test.YtlhcehealjdbdaaDoorP2
import Derived.Deep.DeepCutAuto
import Derived.Test.YtlhcehealjdbdaaDoorP1
/- Which rows may be: the program's walk. -/
namespace Go.Proofs.YtlhcehealjdbdaaDoor
open Go.RowKit
attribute [local go_sem] alloc_drewN setCell_drewN


theorem row_bad {xs : List Glyph} {i : Nat} (h1 : 1 ≤ xs.length) (h2 : xs.length ≤ 80) (hi : i < xs.length) (h : ¬ BackOk xs i) : rowMay xs = false := row_no fun k => h (((row_back h1 h2).1 k).1 i hi)
def RmRel (xs : List Glyph) (i : Nat) (w wr : World) : Prop := (∀ j, j < i → BackOk xs j) ∧ Below w.heap.size w wr
set_option maxRecDepth 10000 in
set_option maxHeartbeats 2000000 in
theorem row_any (a : Option Addr) (n c : Nat) (xs : List Glyph) (w : World) (hl : Cells w a n xs) (ht : Tabs w) : Calls Tryd.prog 20 #[.slice a n c] w (RVal (.bool (rowMay xs)) w) := by
  obtain rfl := hl.1
  have HL := Lib.hid hl
  have HT := Lib.hid ht
  have hn := hl.2.1
  clear hl ht
  by_cases h1 : 1 ≤ xs.length
  · have hd1 : decide ((xs.length : Int) < 1) = false := decide_eq_false (by omega)
    by_cases h2 : xs.length ≤ 80
    · have hd2 : decide ((80 : Int) < xs.length) = false := decide_eq_false (by omega)
      go_enter Tryd.func20, Tryd.ntmps20
      go_wp2_with fail
      go_loopw [16] (fun v wr => ∃ i : Nat, i ≤ xs.length ∧ v = .int .i64 i ∧ Hid (RmRel xs i w wr)) (fun v _ => xs.length - (intOf v).toNat)
      case atStart => exact ⟨0, by omega, rfl, fun j h => absurd h (by omega), Below.refl _ _⟩
      case round =>
        obtain ⟨i, hi, rfl, HR⟩ := hrel
        by_cases hin : i < xs.length
        · obtain ⟨bl, off, rfl, hbl, hcc⟩ := HL.out.2.2 (by omega)
          obtain ⟨x, hx⟩ : ∃ x, at_ xs i = x := ⟨_, rfl⟩
          have HGX : Hid (GAt wr bl (off + i * 6) x) := by rw [← hx]; exact (hcc i hin).same fun p hp => HR.out.2.cell (by omega)
          obtain ⟨e0, e1, e2, e3, e4, e5⟩ := HGX.out
          have HX := Lib.hid hx
          have BA : Hid (Below w.heap.size w ((wr.alloc (.cells #[.int .i32 x.r, .int .u8 x.w, .int .u32 x.f, .int .u32 x.b, .int .u8 x.a, .int .u16 x.l] 28)).drew)) := below_drewN (HR.out.2.alloc HR.out.2.size _) 1
          have OA : Hid (Own ((wr.alloc (.cells #[.int .i32 x.r, .int .u8 x.w, .int .u32 x.f, .int .u32 x.b, .int .u8 x.a, .int .u16 x.l] 28)).drew) wr.heap.size 28 #[.int .i32 x.r, .int .u8 x.w, .int .u32 x.f, .int .u32 x.b, .int .u8 x.a, .int .u16 x.l]) := Own.new wr 28 #[.int .i32 x.r, .int .u8 x.w, .int .u32 x.f, .int .u32 x.b, .int .u8 x.a, .int .u16 x.l]
          obtain ⟨mb, hmb⟩ : ∃ mb, gmay x = mb := ⟨_, rfl⟩
          have HMB := Lib.hid hmb
          clear hmb hx hcc
          by_cases hpos : 0 < i
          · have hdp : decide (0 < (i : Int)) = true := decide_eq_true (by omega)
            have hdp2 : decide (0 < i) = true := decide_eq_true hpos
            obtain ⟨p, hp⟩ : ∃ p, i = p + 1 := ⟨i - 1, by omega⟩
            have hpi : (i : Int) - 1 = p := by omega
            obtain ⟨y, hy⟩ : ∃ y, at_ xs (i - 1) = y := ⟨_, rfl⟩
            have HGY : Hid (GAt (wr.alloc (.cells #[.int .i32 x.r, .int .u8 x.w, .int .u32 x.f, .int .u32 x.b, .int .u8 x.a, .int .u16 x.l] 28)) bl (off + p * 6) y) := by
              rw [← hy, show i - 1 = p from by omega]
              obtain ⟨bl', off', he, _, hcc⟩ := HL.out.2.2 (by omega)
              injection he with he
              injection he with he1 he2
              subst he1 he2
              exact (hcc p (by omega)).same fun q hq => (HR.out.2.alloc HR.out.2.size _).cell (by omega)
            obtain ⟨_, y1, y2, y3, y4, y5⟩ := HGY.out
            have HY := Lib.hid hy
            have hpl : p ≤ 100 := by omega
            have hpl2 : p < xs.length := by omega
            clear hp hy
            cases hlb : (y.w == 1) with
            | false =>
              have hpn : Hid (¬ (0 < i ∧ (at_ xs (i - 1)).w = 1)) := fun k => by rw [HY.out] at k; rw [k.2] at hlb; cases hlb
              clear hpos
              cases mb with
              | false =>
                have HZ : Hid (rowMay xs = false) := row_bad h1 h2 hin (fun h => by rw [BackOk, HX.out, HMB.out] at h; cases h.1)
                go_wp2_with fail
                refine wp_region_bits [(0, true), (1, false), (2, true), (3, true), (4, true), (5, true), (6, true), (7, true), (8, true), (9, true), (10, true), (11, true), (12, true), (13, true), (14, true), (15, true), (16, true), (17, true), (18, true), (19, true), (20, true), (21, true), (22, true), (23, true)] [] (by kernel_rfl) (by kernel_rfl) (fun c a d v w h => by cases d <;> exact h) ?_
                simp only [bits_, bitOf, List.getElem?_cons_zero, List.getElem?_cons_succ, List.contains_nil]
                repeat (first | (refine bits_take (v := ?_) (by rfl) ?_ ?_; rotate_left; (· intro w' hS; go_simp; (repeat (rw [hS.at_]; rotate_left; (· go_simp); go_simp)); (try (go_ints; try go_simp)); with_reducible rfl); (try simp only [Act.put, List.setIfInBounds_toArray, List.set_cons_zero, List.set_cons_succ])) | (refine bits_skip (by rfl) ?_; (try simp only [Act.put, List.setIfInBounds_toArray, List.set_cons_zero, List.set_cons_succ])))
                refine bits_eff (by rfl) (fun K hK => ?_)
                go_simp
                (try go_ints)
                refine (RVal.as (may_any x _ (HT.out.below BA.out)) (congrArg Value.bool HMB.out)).mono ?_
                rintro e w2 ⟨rfl, b2⟩
                have B2 := Lib.hid (BA.out.trans (b2.mono BA.out.size))
                refine hK _ _ ?_ ?_
                · repeat (first | (with_reducible (first | exact Keep.refl _ | refine Keep.left _ ?_ | refine Keep.drew ?_ | refine Keep.drewN ?_ _ | refine Keep.alloc ?_ _)) | (refine Keep.below ?_ (by with_reducible assumption)))
                clear hK K
                (try simp only [Act.put, List.setIfInBounds_toArray, List.set_cons_zero, List.set_cons_succ])
                repeat (first | (refine bits_take (v := ?_) (by rfl) ?_ ?_; rotate_left; (· intro w' hS; go_simp; (repeat (rw [hS.at_]; rotate_left; (· go_simp); go_simp)); (try (go_ints; try go_simp)); with_reducible rfl); (try simp only [Act.put, List.setIfInBounds_toArray, List.set_cons_zero, List.set_cons_succ])) | (refine bits_skip (by rfl) ?_; (try simp only [Act.put, List.setIfInBounds_toArray, List.set_cons_zero, List.set_cons_succ])))
                refine bits_nil ?_
                clear b2
                go_wp2_with fail
                go_ret
                exact ⟨by rw [HZ.out]; rfl, B2.out⟩
              | true =>
                cases hrb : (x.w == 2) with
                | true =>
                  have HZ : Hid (rowMay xs = false) := row_bad h1 h2 hin (fun h => hpn.out ((h.2.1.2 (by rw [HX.out]; exact eq_of_beq hrb))))
                  go_wp2_with fail
                  refine wp_region_bits [(0, true), (1, false), (2, true), (3, true), (4, true), (5, true), (6, true), (7, true), (8, true), (9, true), (10, true), (11, true), (12, true), (13, true), (14, true), (15, true), (16, true), (17, true), (18, true), (19, true), (20, true), (21, true), (22, true), (23, true)] [] (by kernel_rfl) (by kernel_rfl) (fun c a d v w h => by cases d <;> exact h) ?_
                  simp only [bits_, bitOf, List.getElem?_cons_zero, List.getElem?_cons_succ, List.contains_nil]
                  repeat (first | (refine bits_take (v := ?_) (by rfl) ?_ ?_; rotate_left; (· intro w' hS; go_simp; (repeat (rw [hS.at_]; rotate_left; (· go_simp); go_simp)); (try (go_ints; try go_simp)); with_reducible rfl); (try simp only [Act.put, List.setIfInBounds_toArray, List.set_cons_zero, List.set_cons_succ])) | (refine bits_skip (by rfl) ?_; (try simp only [Act.put, List.setIfInBounds_toArray, List.set_cons_zero, List.set_cons_succ])))
                  refine bits_eff (by rfl) (fun K hK => ?_)
                  go_simp
                  (try go_ints)
                  refine (RVal.as (may_any x _ (HT.out.below BA.out)) (congrArg Value.bool HMB.out)).mono ?_
                  rintro e w2 ⟨rfl, b2⟩
                  have B2 := Lib.hid (BA.out.trans (b2.mono BA.out.size))
                  refine hK _ _ ?_ ?_
                  · repeat (first | (with_reducible (first | exact Keep.refl _ | refine Keep.left _ ?_ | refine Keep.drew ?_ | refine Keep.drewN ?_ _ | refine Keep.alloc ?_ _)) | (refine Keep.below ?_ (by with_reducible assumption)))
                  clear hK K
                  (try simp only [Act.put, List.setIfInBounds_toArray, List.set_cons_zero, List.set_cons_succ])
                  repeat (first | (refine bits_take (v := ?_) (by rfl) ?_ ?_; rotate_left; (· intro w' hS; go_simp; (repeat (rw [hS.at_]; rotate_left; (· go_simp); go_simp)); (try (go_ints; try go_simp)); with_reducible rfl); (try simp only [Act.put, List.setIfInBounds_toArray, List.set_cons_zero, List.set_cons_succ])) | (refine bits_skip (by rfl) ?_; (try simp only [Act.put, List.setIfInBounds_toArray, List.set_cons_zero, List.set_cons_succ])))
                  refine bits_nil ?_
                  clear b2
                  go_wp2_with fail
                  go_ret
                  exact ⟨by rw [HZ.out]; rfl, B2.out⟩
                | false =>
                  have HOK : Hid (BackOk xs i) := ⟨by rw [HX.out, HMB.out], ⟨fun k => absurd k hpn.out, fun k => by rw [HX.out] at k; rw [k] at hrb; cases hrb⟩, fun k0 k1 => absurd ⟨k0, k1⟩ hpn.out⟩
                  have HN : Hid (∀ j, j < i + 1 → BackOk xs j) := fun j hj => by
                    rcases Nat.lt_or_ge j i with q | q
                    · exact HR.out.1 j q
                    · obtain rfl : j = i := by omega
                      exact HOK.out
                  go_wp2_with fail
                  refine wp_region_bits [(0, true), (1, false), (2, true), (3, true), (4, true), (5, true), (6, true), (7, true), (8, true), (9, true), (10, true), (11, true), (12, true), (13, true), (14, true), (15, true), (16, true), (17, true), (18, true), (19, true), (20, true), (21, true), (22, true), (23, true)] [] (by kernel_rfl) (by kernel_rfl) (fun c a d v w h => by cases d <;> exact h) ?_
                  simp only [bits_, bitOf, List.getElem?_cons_zero, List.getElem?_cons_succ, List.contains_nil]
                  repeat (first | (refine bits_take (v := ?_) (by rfl) ?_ ?_; rotate_left; (· intro w' hS; go_simp; (repeat (rw [hS.at_]; rotate_left; (· go_simp); go_simp)); (try (go_ints; try go_simp)); with_reducible rfl); (try simp only [Act.put, List.setIfInBounds_toArray, List.set_cons_zero, List.set_cons_succ])) | (refine bits_skip (by rfl) ?_; (try simp only [Act.put, List.setIfInBounds_toArray, List.set_cons_zero, List.set_cons_succ])))
                  refine bits_eff (by rfl) (fun K hK => ?_)
                  go_simp
                  (try go_ints)
                  refine (RVal.as (may_any x _ (HT.out.below BA.out)) (congrArg Value.bool HMB.out)).mono ?_
                  rintro e w2 ⟨rfl, b2⟩
                  have B2 := Lib.hid (BA.out.trans (b2.mono BA.out.size))
                  refine hK _ _ ?_ ?_
                  · repeat (first | (with_reducible (first | exact Keep.refl _ | refine Keep.left _ ?_ | refine Keep.drew ?_ | refine Keep.drewN ?_ _ | refine Keep.alloc ?_ _)) | (refine Keep.below ?_ (by with_reducible assumption)))
                  clear hK K
                  (try simp only [Act.put, List.setIfInBounds_toArray, List.set_cons_zero, List.set_cons_succ])
                  repeat (first | (refine bits_take (v := ?_) (by rfl) ?_ ?_; rotate_left; (· intro w' hS; go_simp; (repeat (rw [hS.at_]; rotate_left; (· go_simp); go_simp)); (try (go_ints; try go_simp)); with_reducible rfl); (try simp only [Act.put, List.setIfInBounds_toArray, List.set_cons_zero, List.set_cons_succ])) | (refine bits_skip (by rfl) ?_; (try simp only [Act.put, List.setIfInBounds_toArray, List.set_cons_zero, List.set_cons_succ])))
                  refine bits_nil ?_
                  have HNN : Hid (RmRel xs (i + 1) w w2) := ⟨HN.out, B2.out⟩
                  clear b2
                  go_wp2_with fail
                  go_roundw
                  case rel => exact ⟨i + 1, by omega, by go_num, HNN⟩
                  case measure => simp [intOf]; omega
            | true =>
              have hpy : Hid (0 < i ∧ (at_ xs (i - 1)).w = 1) := ⟨hpos, by rw [HY.out]; exact eq_of_beq hlb⟩
              clear hpos
              cases mb with
              | false =>
                have HZ : Hid (rowMay xs = false) := row_bad h1 h2 hin (fun h => by rw [BackOk, HX.out, HMB.out] at h; cases h.1)
                go_wp2_with fail
                refine wp_region_bits [(0, true), (1, false), (2, true), (3, true), (4, true), (5, true), (6, true), (7, true), (8, true), (9, true), (10, true), (11, true), (12, true), (13, true), (14, true), (15, true), (16, true), (17, true), (18, true), (19, true), (20, true), (21, true), (22, true), (23, true)] [] (by kernel_rfl) (by kernel_rfl) (fun c a d v w h => by cases d <;> exact h) ?_
                simp only [bits_, bitOf, List.getElem?_cons_zero, List.getElem?_cons_succ, List.contains_nil]
                repeat (first | (refine bits_take (v := ?_) (by rfl) ?_ ?_; rotate_left; (· intro w' hS; go_simp; (repeat (rw [hS.at_]; rotate_left; (· go_simp); go_simp)); (try (go_ints; try go_simp)); with_reducible rfl); (try simp only [Act.put, List.setIfInBounds_toArray, List.set_cons_zero, List.set_cons_succ])) | (refine bits_skip (by rfl) ?_; (try simp only [Act.put, List.setIfInBounds_toArray, List.set_cons_zero, List.set_cons_succ])))
                refine bits_eff (by rfl) (fun K hK => ?_)
                go_simp
                (try go_ints)
                refine (RVal.as (may_any x _ (HT.out.below BA.out)) (congrArg Value.bool HMB.out)).mono ?_
                rintro e w2 ⟨rfl, b2⟩
                have B2 := Lib.hid (BA.out.trans (b2.mono BA.out.size))
                refine hK _ _ ?_ ?_
                · repeat (first | (with_reducible (first | exact Keep.refl _ | refine Keep.left _ ?_ | refine Keep.drew ?_ | refine Keep.drewN ?_ _ | refine Keep.alloc ?_ _)) | (refine Keep.below ?_ (by with_reducible assumption)))
                clear hK K
                (try simp only [Act.put, List.setIfInBounds_toArray, List.set_cons_zero, List.set_cons_succ])
                repeat (first | (refine bits_take (v := ?_) (by rfl) ?_ ?_; rotate_left; (· intro w' hS; go_simp; (repeat (rw [hS.at_]; rotate_left; (· go_simp); go_simp)); (try (go_ints; try go_simp)); with_reducible rfl); (try simp only [Act.put, List.setIfInBounds_toArray, List.set_cons_zero, List.set_cons_succ])) | (refine bits_skip (by rfl) ?_; (try simp only [Act.put, List.setIfInBounds_toArray, List.set_cons_zero, List.set_cons_succ])))
                refine bits_nil ?_
                clear b2
                go_wp2_with fail
                go_ret
                exact ⟨by rw [HZ.out]; rfl, B2.out⟩
              | true =>
                cases hrb : (x.w == 2) with
                | false =>
                  have HZ : Hid (rowMay xs = false) := row_bad h1 h2 hin (fun h => by have := h.2.1.1 hpy.out; rw [HX.out] at this; rw [this] at hrb; cases hrb)
                  go_wp2_with fail
                  refine wp_region_bits [(0, true), (1, false), (2, true), (3, true), (4, true), (5, true), (6, true), (7, true), (8, true), (9, true), (10, true), (11, true), (12, true), (13, true), (14, true), (15, true), (16, true), (17, true), (18, true), (19, true), (20, true), (21, true), (22, true), (23, true)] [] (by kernel_rfl) (by kernel_rfl) (fun c a d v w h => by cases d <;> exact h) ?_
                  simp only [bits_, bitOf, List.getElem?_cons_zero, List.getElem?_cons_succ, List.contains_nil]
                  repeat (first | (refine bits_take (v := ?_) (by rfl) ?_ ?_; rotate_left; (· intro w' hS; go_simp; (repeat (rw [hS.at_]; rotate_left; (· go_simp); go_simp)); (try (go_ints; try go_simp)); with_reducible rfl); (try simp only [Act.put, List.setIfInBounds_toArray, List.set_cons_zero, List.set_cons_succ])) | (refine bits_skip (by rfl) ?_; (try simp only [Act.put, List.setIfInBounds_toArray, List.set_cons_zero, List.set_cons_succ])))
                  refine bits_eff (by rfl) (fun K hK => ?_)
                  go_simp
                  (try go_ints)
                  refine (RVal.as (may_any x _ (HT.out.below BA.out)) (congrArg Value.bool HMB.out)).mono ?_
                  rintro e w2 ⟨rfl, b2⟩
                  have B2 := Lib.hid (BA.out.trans (b2.mono BA.out.size))
                  refine hK _ _ ?_ ?_
                  · repeat (first | (with_reducible (first | exact Keep.refl _ | refine Keep.left _ ?_ | refine Keep.drew ?_ | refine Keep.drewN ?_ _ | refine Keep.alloc ?_ _)) | (refine Keep.below ?_ (by with_reducible assumption)))
                  clear hK K
                  (try simp only [Act.put, List.setIfInBounds_toArray, List.set_cons_zero, List.set_cons_succ])
                  repeat (first | (refine bits_take (v := ?_) (by rfl) ?_ ?_; rotate_left; (· intro w' hS; go_simp; (repeat (rw [hS.at_]; rotate_left; (· go_simp); go_simp)); (try (go_ints; try go_simp)); with_reducible rfl); (try simp only [Act.put, List.setIfInBounds_toArray, List.set_cons_zero, List.set_cons_succ])) | (refine bits_skip (by rfl) ?_; (try simp only [Act.put, List.setIfInBounds_toArray, List.set_cons_zero, List.set_cons_succ])))
                  refine bits_nil ?_
                  clear b2
                  go_wp2_with fail
                  go_ret
                  exact ⟨by rw [HZ.out]; rfl, B2.out⟩
                | true =>
                  by_cases hpp : y.pen = x.pen
                  · have HOK : Hid (BackOk xs i) := ⟨by rw [HX.out, HMB.out], ⟨fun _ => by rw [HX.out]; exact eq_of_beq hrb, fun _ => hpy.out⟩, fun _ _ => by rw [HX.out, HY.out]; exact hpp⟩
                    have hpq := pneq_no hpp
                    clear hpp
                    have HN : Hid (∀ j, j < i + 1 → BackOk xs j) := fun j hj => by
                      rcases Nat.lt_or_ge j i with q | q
                      · exact HR.out.1 j q
                      · obtain rfl : j = i := by omega
                        exact HOK.out
                    go_wp2_with fail
                    refine wp_region_bits [(0, true), (1, false), (2, true), (3, true), (4, true), (5, true), (6, true), (7, true), (8, true), (9, true), (10, true), (11, true), (12, true), (13, true), (14, true), (15, true), (16, true), (17, true), (18, true), (19, true), (20, true), (21, true), (22, true), (23, true)] [] (by kernel_rfl) (by kernel_rfl) (fun c a d v w h => by cases d <;> exact h) ?_
                    simp only [bits_, bitOf, List.getElem?_cons_zero, List.getElem?_cons_succ, List.contains_nil]
                    repeat (first | (refine bits_take (v := ?_) (by rfl) ?_ ?_; rotate_left; (· intro w' hS; go_simp; (repeat (rw [hS.at_]; rotate_left; (· go_simp); go_simp)); (try (go_ints; try go_simp)); with_reducible rfl); (try simp only [Act.put, List.setIfInBounds_toArray, List.set_cons_zero, List.set_cons_succ])) | (refine bits_skip (by rfl) ?_; (try simp only [Act.put, List.setIfInBounds_toArray, List.set_cons_zero, List.set_cons_succ])))
                    refine bits_eff (by rfl) (fun K hK => ?_)
                    go_simp
                    (try go_ints)
                    refine (RVal.as (may_any x _ (HT.out.below BA.out)) (congrArg Value.bool HMB.out)).mono ?_
                    rintro e w2 ⟨rfl, b2⟩
                    have B2 := Lib.hid (BA.out.trans (b2.mono BA.out.size))
                    refine hK _ _ ?_ ?_
                    · repeat (first | (with_reducible (first | exact Keep.refl _ | refine Keep.left _ ?_ | refine Keep.drew ?_ | refine Keep.drewN ?_ _ | refine Keep.alloc ?_ _)) | (refine Keep.below ?_ (by with_reducible assumption)))
                    clear hK K
                    (try simp only [Act.put, List.setIfInBounds_toArray, List.set_cons_zero, List.set_cons_succ])
                    repeat (first | (refine bits_take (v := ?_) (by rfl) ?_ ?_; rotate_left; (· intro w' hS; go_simp; (repeat (rw [hS.at_]; rotate_left; (· go_simp); go_simp)); (try (go_ints; try go_simp)); with_reducible rfl); (try simp only [Act.put, List.setIfInBounds_toArray, List.set_cons_zero, List.set_cons_succ])) | (refine bits_skip (by rfl) ?_; (try simp only [Act.put, List.setIfInBounds_toArray, List.set_cons_zero, List.set_cons_succ])))
                    refine bits_nil ?_
                    have HNN : Hid (RmRel xs (i + 1) w w2) := ⟨HN.out, B2.out⟩
                    clear b2
                    go_wp2_with fail
                    go_roundw
                    case rel => exact ⟨i + 1, by omega, by go_num, HNN⟩
                    case measure => simp [intOf]; omega
                  · have HZ : Hid (rowMay xs = false) := row_bad h1 h2 hin (fun h => hpp (by have := h.2.2 hpy.out.1 hpy.out.2; rw [HX.out, HY.out] at this; exact this))
                    have hpq := pneq_yes hpp
                    clear hpp
                    go_wp2_with fail
                    refine wp_region_bits [(0, true), (1, false), (2, true), (3, true), (4, true), (5, true), (6, true), (7, true), (8, true), (9, true), (10, true), (11, true), (12, true), (13, true), (14, true), (15, true), (16, true), (17, true), (18, true), (19, true), (20, true), (21, true), (22, true), (23, true)] [] (by kernel_rfl) (by kernel_rfl) (fun c a d v w h => by cases d <;> exact h) ?_
                    simp only [bits_, bitOf, List.getElem?_cons_zero, List.getElem?_cons_succ, List.contains_nil]
                    repeat (first | (refine bits_take (v := ?_) (by rfl) ?_ ?_; rotate_left; (· intro w' hS; go_simp; (repeat (rw [hS.at_]; rotate_left; (· go_simp); go_simp)); (try (go_ints; try go_simp)); with_reducible rfl); (try simp only [Act.put, List.setIfInBounds_toArray, List.set_cons_zero, List.set_cons_succ])) | (refine bits_skip (by rfl) ?_; (try simp only [Act.put, List.setIfInBounds_toArray, List.set_cons_zero, List.set_cons_succ])))
                    refine bits_eff (by rfl) (fun K hK => ?_)
                    go_simp
                    (try go_ints)
                    refine (RVal.as (may_any x _ (HT.out.below BA.out)) (congrArg Value.bool HMB.out)).mono ?_
                    rintro e w2 ⟨rfl, b2⟩
                    have B2 := Lib.hid (BA.out.trans (b2.mono BA.out.size))
                    refine hK _ _ ?_ ?_
                    · repeat (first | (with_reducible (first | exact Keep.refl _ | refine Keep.left _ ?_ | refine Keep.drew ?_ | refine Keep.drewN ?_ _ | refine Keep.alloc ?_ _)) | (refine Keep.below ?_ (by with_reducible assumption)))
                    clear hK K
                    (try simp only [Act.put, List.setIfInBounds_toArray, List.set_cons_zero, List.set_cons_succ])
                    repeat (first | (refine bits_take (v := ?_) (by rfl) ?_ ?_; rotate_left; (· intro w' hS; go_simp; (repeat (rw [hS.at_]; rotate_left; (· go_simp); go_simp)); (try (go_ints; try go_simp)); with_reducible rfl); (try simp only [Act.put, List.setIfInBounds_toArray, List.set_cons_zero, List.set_cons_succ])) | (refine bits_skip (by rfl) ?_; (try simp only [Act.put, List.setIfInBounds_toArray, List.set_cons_zero, List.set_cons_succ])))
                    refine bits_nil ?_
                    clear b2
                    go_wp2_with fail
                    go_ret
                    exact ⟨by rw [HZ.out]; rfl, B2.out⟩
          · have hdp : decide (0 < (i : Int)) = false := decide_eq_false (by omega)
            have hdp2 : decide (0 < i) = false := decide_eq_false hpos
            have hpn : Hid (¬ (0 < i ∧ (at_ xs (i - 1)).w = 1)) := fun k => hpos k.1
            clear hpos
            cases mb with
            | false =>
              have HZ : Hid (rowMay xs = false) := row_bad h1 h2 hin (fun h => by rw [BackOk, HX.out, HMB.out] at h; cases h.1)
              go_wp2_with fail
              refine wp_region_bits [(0, true), (1, false), (2, true), (3, true), (4, true), (5, true), (6, true), (7, true), (8, true), (9, true), (10, true), (11, true), (12, true), (13, true), (14, true), (15, true), (16, true), (17, true), (18, true), (19, true), (20, true), (21, true), (22, true), (23, true)] [] (by kernel_rfl) (by kernel_rfl) (fun c a d v w h => by cases d <;> exact h) ?_
              simp only [bits_, bitOf, List.getElem?_cons_zero, List.getElem?_cons_succ, List.contains_nil]
              repeat (first | (refine bits_take (v := ?_) (by rfl) ?_ ?_; rotate_left; (· intro w' hS; go_simp; (repeat (rw [hS.at_]; rotate_left; (· go_simp); go_simp)); (try (go_ints; try go_simp)); with_reducible rfl); (try simp only [Act.put, List.setIfInBounds_toArray, List.set_cons_zero, List.set_cons_succ])) | (refine bits_skip (by rfl) ?_; (try simp only [Act.put, List.setIfInBounds_toArray, List.set_cons_zero, List.set_cons_succ])))
              refine bits_eff (by rfl) (fun K hK => ?_)
              go_simp
              (try go_ints)
              refine (RVal.as (may_any x _ (HT.out.below BA.out)) (congrArg Value.bool HMB.out)).mono ?_
              rintro e w2 ⟨rfl, b2⟩
              have B2 := Lib.hid (BA.out.trans (b2.mono BA.out.size))
              refine hK _ _ ?_ ?_
              · repeat (first | (with_reducible (first | exact Keep.refl _ | refine Keep.left _ ?_ | refine Keep.drew ?_ | refine Keep.drewN ?_ _ | refine Keep.alloc ?_ _)) | (refine Keep.below ?_ (by with_reducible assumption)))
              clear hK K
              (try simp only [Act.put, List.setIfInBounds_toArray, List.set_cons_zero, List.set_cons_succ])
              repeat (first | (refine bits_take (v := ?_) (by rfl) ?_ ?_; rotate_left; (· intro w' hS; go_simp; (repeat (rw [hS.at_]; rotate_left; (· go_simp); go_simp)); (try (go_ints; try go_simp)); with_reducible rfl); (try simp only [Act.put, List.setIfInBounds_toArray, List.set_cons_zero, List.set_cons_succ])) | (refine bits_skip (by rfl) ?_; (try simp only [Act.put, List.setIfInBounds_toArray, List.set_cons_zero, List.set_cons_succ])))
              refine bits_nil ?_
              clear b2
              go_wp2_with fail
              go_ret
              exact ⟨by rw [HZ.out]; rfl, B2.out⟩
            | true =>
              cases hrb : (x.w == 2) with
              | true =>
                have HZ : Hid (rowMay xs = false) := row_bad h1 h2 hin (fun h => hpn.out ((h.2.1.2 (by rw [HX.out]; exact eq_of_beq hrb))))
                go_wp2_with fail
                refine wp_region_bits [(0, true), (1, false), (2, true), (3, true), (4, true), (5, true), (6, true), (7, true), (8, true), (9, true), (10, true), (11, true), (12, true), (13, true), (14, true), (15, true), (16, true), (17, true), (18, true), (19, true), (20, true), (21, true), (22, true), (23, true)] [] (by kernel_rfl) (by kernel_rfl) (fun c a d v w h => by cases d <;> exact h) ?_
                simp only [bits_, bitOf, List.getElem?_cons_zero, List.getElem?_cons_succ, List.contains_nil]
                repeat (first | (refine bits_take (v := ?_) (by rfl) ?_ ?_; rotate_left; (· intro w' hS; go_simp; (repeat (rw [hS.at_]; rotate_left; (· go_simp); go_simp)); (try (go_ints; try go_simp)); with_reducible rfl); (try simp only [Act.put, List.setIfInBounds_toArray, List.set_cons_zero, List.set_cons_succ])) | (refine bits_skip (by rfl) ?_; (try simp only [Act.put, List.setIfInBounds_toArray, List.set_cons_zero, List.set_cons_succ])))
                refine bits_eff (by rfl) (fun K hK => ?_)
                go_simp
                (try go_ints)
                refine (RVal.as (may_any x _ (HT.out.below BA.out)) (congrArg Value.bool HMB.out)).mono ?_
                rintro e w2 ⟨rfl, b2⟩
                have B2 := Lib.hid (BA.out.trans (b2.mono BA.out.size))
                refine hK _ _ ?_ ?_
                · repeat (first | (with_reducible (first | exact Keep.refl _ | refine Keep.left _ ?_ | refine Keep.drew ?_ | refine Keep.drewN ?_ _ | refine Keep.alloc ?_ _)) | (refine Keep.below ?_ (by with_reducible assumption)))
                clear hK K
                (try simp only [Act.put, List.setIfInBounds_toArray, List.set_cons_zero, List.set_cons_succ])
                repeat (first | (refine bits_take (v := ?_) (by rfl) ?_ ?_; rotate_left; (· intro w' hS; go_simp; (repeat (rw [hS.at_]; rotate_left; (· go_simp); go_simp)); (try (go_ints; try go_simp)); with_reducible rfl); (try simp only [Act.put, List.setIfInBounds_toArray, List.set_cons_zero, List.set_cons_succ])) | (refine bits_skip (by rfl) ?_; (try simp only [Act.put, List.setIfInBounds_toArray, List.set_cons_zero, List.set_cons_succ])))
                refine bits_nil ?_
                clear b2
                go_wp2_with fail
                go_ret
                exact ⟨by rw [HZ.out]; rfl, B2.out⟩
              | false =>
                have HOK : Hid (BackOk xs i) := ⟨by rw [HX.out, HMB.out], ⟨fun k => absurd k hpn.out, fun k => by rw [HX.out] at k; rw [k] at hrb; cases hrb⟩, fun k0 k1 => absurd ⟨k0, k1⟩ hpn.out⟩
                have HN : Hid (∀ j, j < i + 1 → BackOk xs j) := fun j hj => by
                  rcases Nat.lt_or_ge j i with q | q
                  · exact HR.out.1 j q
                  · obtain rfl : j = i := by omega
                    exact HOK.out
                go_wp2_with fail
                refine wp_region_bits [(0, true), (1, false), (2, true), (3, true), (4, true), (5, true), (6, true), (7, true), (8, true), (9, true), (10, true), (11, true), (12, true), (13, true), (14, true), (15, true), (16, true), (17, true), (18, true), (19, true), (20, true), (21, true), (22, true), (23, true)] [] (by kernel_rfl) (by kernel_rfl) (fun c a d v w h => by cases d <;> exact h) ?_
                simp only [bits_, bitOf, List.getElem?_cons_zero, List.getElem?_cons_succ, List.contains_nil]
                repeat (first | (refine bits_take (v := ?_) (by rfl) ?_ ?_; rotate_left; (· intro w' hS; go_simp; (repeat (rw [hS.at_]; rotate_left; (· go_simp); go_simp)); (try (go_ints; try go_simp)); with_reducible rfl); (try simp only [Act.put, List.setIfInBounds_toArray, List.set_cons_zero, List.set_cons_succ])) | (refine bits_skip (by rfl) ?_; (try simp only [Act.put, List.setIfInBounds_toArray, List.set_cons_zero, List.set_cons_succ])))
                refine bits_eff (by rfl) (fun K hK => ?_)
                go_simp
                (try go_ints)
                refine (RVal.as (may_any x _ (HT.out.below BA.out)) (congrArg Value.bool HMB.out)).mono ?_
                rintro e w2 ⟨rfl, b2⟩
                have B2 := Lib.hid (BA.out.trans (b2.mono BA.out.size))
                refine hK _ _ ?_ ?_
                · repeat (first | (with_reducible (first | exact Keep.refl _ | refine Keep.left _ ?_ | refine Keep.drew ?_ | refine Keep.drewN ?_ _ | refine Keep.alloc ?_ _)) | (refine Keep.below ?_ (by with_reducible assumption)))
                clear hK K
                (try simp only [Act.put, List.setIfInBounds_toArray, List.set_cons_zero, List.set_cons_succ])
                repeat (first | (refine bits_take (v := ?_) (by rfl) ?_ ?_; rotate_left; (· intro w' hS; go_simp; (repeat (rw [hS.at_]; rotate_left; (· go_simp); go_simp)); (try (go_ints; try go_simp)); with_reducible rfl); (try simp only [Act.put, List.setIfInBounds_toArray, List.set_cons_zero, List.set_cons_succ])) | (refine bits_skip (by rfl) ?_; (try simp only [Act.put, List.setIfInBounds_toArray, List.set_cons_zero, List.set_cons_succ])))
                refine bits_nil ?_
                have HNN : Hid (RmRel xs (i + 1) w w2) := ⟨HN.out, B2.out⟩
                clear b2
                go_wp2_with fail
                go_roundw
                case rel => exact ⟨i + 1, by omega, by go_num, HNN⟩
                case measure => simp [intOf]; omega
        · obtain rfl : i = xs.length := by omega
          obtain ⟨bl, off, rfl, hbl, hcc⟩ := HL.out.2.2 (by omega)
          obtain ⟨p, hp⟩ : ∃ p, xs.length = p + 1 := ⟨xs.length - 1, by omega⟩
          obtain ⟨y, hy⟩ : ∃ y, at_ xs p = y := ⟨_, rfl⟩
          have hgy : GAt wr bl (off + p * 6) y := by
            rw [← hy]
            exact (hcc p (by omega)).same fun q hq => HR.out.2.cell (by omega)
          have e1 := hgy.2.1
          have HY : Hid (at_ xs (xs.length - 1) = y) := by rw [hp, Nat.add_sub_cancel]; exact hy
          have hpi : (xs.length : Int) - 1 = p := by omega
          have hpl2 : p < xs.length := by omega
          have HB := row_back h1 h2
          have HBX := Lib.hid HB
          clear hcc hp hy hgy HB
          cases hlb : (y.w != 1) with
          | false =>
            have HZ : Hid (rowMay xs = false) := row_no fun h => ((HBX.out.1 h).2 (by rw [HY.out]; simpa using hlb))
            go_wp2_with fail
            go_ret
            exact ⟨by rw [HZ.out]; rfl, HR.out.2⟩
          | true =>
            have HZ : Hid (rowMay xs = true) := row_yes (HBX.out.2 ⟨HR.out.1, fun h => by rw [HY.out] at h; rw [h] at hlb; cases hlb⟩)
            go_wp2_with fail
            go_ret
            exact ⟨by rw [HZ.out]; rfl, HR.out.2⟩
    · have hd2 : decide ((80 : Int) < xs.length) = true := decide_eq_true (by omega)
      have HZ := Lib.hid (row_no (xs := xs) (fun h => h2 h.2.1))
      clear h2
      go_enter Tryd.func20, Tryd.ntmps20
      go_wp2_with fail
      go_ret
      exact ⟨by rw [HZ.out]; rfl, Below.refl _ _⟩
  · have hd1 : decide ((xs.length : Int) < 1) = true := decide_eq_true (by omega)
    have HZ := Lib.hid (row_no (xs := xs) (fun h => h1 h.1))
    clear h1
    go_enter Tryd.func20, Tryd.ntmps20
    go_wp2_with fail
    go_ret
    exact ⟨by rw [HZ.out]; rfl, Below.refl _ _⟩
end Go.Proofs.YtlhcehealjdbdaaDoor
/- Which rows may be: the document's walk. -/
namespace Go.Proofs.YtlhcehealjdbdaaDoor
open Go.RowKit
attribute [local go_sem] alloc_drewN setCell_drewN


theorem ref_bad {xs : List Glyph} {i : Nat} (hi : i < xs.length) (h : ¬ CellOk xs i) : rowMay xs = false := row_no fun k => h (k.2.2 i hi)
def RrRel (xs : List Glyph) (i : Nat) (w wr : World) : Prop := (∀ j, j < i → CellOk xs j) ∧ Below w.heap.size w wr
set_option maxRecDepth 10000 in
set_option maxHeartbeats 2000000 in
theorem ref_row_any (a : Option Addr) (n c : Nat) (xs : List Glyph) (w : World) (hl : Cells w a n xs) : Calls Tryd.prog 21 #[.slice a n c] w (RVal (.bool (rowMay xs)) w) := by
  obtain rfl := hl.1
  have HL := Lib.hid hl
  have hn := hl.2.1
  clear hl
  by_cases h1 : 1 ≤ xs.length
  · have hd1 : ((xs.length : Int) == 0) = false := beq_eq_false_iff_ne.2 (by omega)
    by_cases h2 : xs.length ≤ 80
    · have hd2 : decide ((80 : Int) < xs.length) = false := decide_eq_false (by omega)
      go_enter Tryd.func21, Tryd.ntmps21
      go_wp2_with fail
      go_loopw [3] (fun v wr => ∃ i : Nat, i ≤ xs.length ∧ v = .int .i64 i ∧ Hid (RrRel xs i w wr)) (fun v _ => xs.length - (intOf v).toNat)
      case atStart => exact ⟨0, by omega, rfl, fun j h => absurd h (by omega), Below.refl _ _⟩
      case round =>
        obtain ⟨i, hi, rfl, HR⟩ := hrel
        by_cases hin : i < xs.length
        · obtain ⟨bl, off, rfl, hbl, hcc⟩ := HL.out.2.2 (by omega)
          obtain ⟨x, hx⟩ : ∃ x, at_ xs i = x := ⟨_, rfl⟩
          have HGX : Hid (GAt wr bl (off + i * 6) x) := by rw [← hx]; exact (hcc i hin).same fun p hp => HR.out.2.cell (by omega)
          obtain ⟨e0, e1, e2, e3, e4, e5⟩ := HGX.out
          have HX := Lib.hid hx
          have HBL : Hid (∀ j, j < xs.length → ∀ wz, Below w.heap.size w wz → GAt wz bl (off + j * 6) (at_ xs j)) := fun j hj wz hb => (hcc j hj).same fun p hp => hb.cell (by omega)
          obtain ⟨mb, hmb⟩ : ∃ mb, gmay x = mb := ⟨_, rfl⟩
          have HMB := Lib.hid hmb
          clear hmb hx hcc
          go_wp2_with fail
          refine (RVal.as (ref_may_any x _) (congrArg Value.bool HMB.out)).mono ?_
          rintro e w2 ⟨rfl, b2⟩
          have BW := Lib.hid (HR.out.2.trans (b2.mono HR.out.2.size))
          have HG2 := Lib.hid (HBL.out i hin w2 BW.out)
          rw [HX.out] at HG2
          clear e0 e1 e2 e3 e4 e5 b2
          obtain ⟨e0, e1, e2, e3, e4, e5⟩ := HG2.out
          cases mb with
          | false =>
            have HZ : Hid (rowMay xs = false) := ref_bad hin (fun h => by rw [CellOk, HX.out, HMB.out] at h; cases h.1)
            go_wp2_with fail
            skip
            go_ret
            exact ⟨by rw [HZ.out]; rfl, BW.out⟩
          | true =>
            cases hw1 : (x.w == 1) with
            | true =>
              have hw2 : (x.w == 2) = false := by rw [eq_of_beq hw1]; rfl
              by_cases hil : i + 1 < xs.length
              · have hde : ((i : Int) == (xs.length : Int) - 1) = false := beq_eq_false_iff_ne.2 (by omega)
                have hix0 : (0 : Int) ≤ (i : Int) + 1 := by omega
                have hix1 : (i : Int) + 1 < xs.length := by omega
                obtain ⟨z, hz⟩ : ∃ z, at_ xs (i + 1) = z := ⟨_, rfl⟩
                have HGZ := Lib.hid (HBL.out (i + 1) hil w2 BW.out)
                rw [hz] at HGZ
                obtain ⟨_, z1, z2, z3, z4, z5⟩ := HGZ.out
                have HZZ := Lib.hid hz
                clear hz
                cases hzw : (z.w != 2) with
                | true =>
                  have HZ : Hid (rowMay xs = false) := ref_bad hin (fun h => by have := (h.2.1 (by rw [HX.out]; exact eq_of_beq hw1)).2.1; rw [HZZ.out] at this; rw [this] at hzw; cases hzw)
                  go_wp2_with fail
                  refine wp_region_bits [(0, true), (1, true), (2, true), (3, true), (4, true), (5, true), (6, true), (7, true), (8, true), (9, true), (10, true), (11, true), (12, true), (13, true), (14, true), (15, true), (16, true), (17, true), (18, true), (19, true), (20, true), (21, true), (22, true), (23, true), (24, true), (25, true), (26, true), (27, true), (28, true), (29, true), (30, true), (31, true), (32, true), (33, true), (34, true), (35, true)] [] (by kernel_rfl) (by kernel_rfl) (fun c a d v w h => by cases d <;> exact h) ?_
                  simp only [bits_, bitOf, List.getElem?_cons_zero, List.getElem?_cons_succ, List.contains_nil]
                  repeat (first
                    | (refine bits_take (v := ?_) (by rfl) ?_ ?_; rotate_left; (· intro w' hS; go_simp; (repeat (rw [hS.at_]; rotate_left; (· go_simp); go_simp)); (try (go_ints; try go_simp)); with_reducible rfl); (try simp only [Act.put, List.setIfInBounds_toArray, List.set_cons_zero, List.set_cons_succ]))
                    | (refine bits_skip (by rfl) ?_; (try simp only [Act.put, List.setIfInBounds_toArray, List.set_cons_zero, List.set_cons_succ]))
                    | (refine bits_pass (by rfl) ?_ ?_; (· repeat (first | (with_reducible (first | exact Keep.refl _ | refine Keep.left _ ?_ | refine Keep.drew ?_ | refine Keep.drewN ?_ _ | refine Keep.alloc ?_ _)) | (refine Keep.below ?_ (by with_reducible assumption)))); (try simp only [Act.put, List.setIfInBounds_toArray, List.set_cons_zero, List.set_cons_succ]))
                    | (refine bits_eff (by rfl) (fun K hK => ?_); go_simp; (try go_ints); (first | go_at_K); refine hK _ _ ?_ ?_; (· repeat (first | (with_reducible (first | exact Keep.refl _ | refine Keep.left _ ?_ | refine Keep.drew ?_ | refine Keep.drewN ?_ _ | refine Keep.alloc ?_ _)) | (refine Keep.below ?_ (by with_reducible assumption)))); clear hK K; (try simp only [Act.put, List.setIfInBounds_toArray, List.set_cons_zero, List.set_cons_succ])))
                  refine bits_nil ?_
                  go_wp2_with fail
                  go_ret
                  exact ⟨by rw [HZ.out]; rfl, below_drewN BW.out 1⟩
                | false =>
                  by_cases hpp : z.pen = x.pen
                  · have hpq := pneq_no hpp
                    have HPP := Lib.hid hpp
                    clear hpp
                    have HOK : Hid (CellOk xs i) := ⟨by rw [HX.out, HMB.out], fun _ => ⟨hil, by rw [HZZ.out]; simpa using hzw, by rw [HX.out, HZZ.out]; exact HPP.out⟩, fun k => by rw [HX.out] at k; rw [k] at hw2; cases hw2⟩
                    have HN : Hid (∀ j, j < i + 1 → CellOk xs j) := fun j hj => by
                      rcases Nat.lt_or_ge j i with q | q
                      · exact HR.out.1 j q
                      · obtain rfl : j = i := by omega
                        exact HOK.out
                    go_wp2_with fail
                    refine wp_region_bits [(0, true), (1, true), (2, true), (3, true), (4, true), (5, true), (6, true), (7, true), (8, true), (9, true), (10, true), (11, true), (12, true), (13, true), (14, true), (15, true), (16, true), (17, true), (18, true), (19, true), (20, true), (21, true), (22, true), (23, true), (24, true), (25, true), (26, true), (27, true), (28, true), (29, true), (30, true), (31, true), (32, true), (33, true), (34, true), (35, true)] [] (by kernel_rfl) (by kernel_rfl) (fun c a d v w h => by cases d <;> exact h) ?_
                    simp only [bits_, bitOf, List.getElem?_cons_zero, List.getElem?_cons_succ, List.contains_nil]
                    repeat (first
                      | (refine bits_take (v := ?_) (by rfl) ?_ ?_; rotate_left; (· intro w' hS; go_simp; (repeat (rw [hS.at_]; rotate_left; (· go_simp); go_simp)); (try (go_ints; try go_simp)); with_reducible rfl); (try simp only [Act.put, List.setIfInBounds_toArray, List.set_cons_zero, List.set_cons_succ]))
                      | (refine bits_skip (by rfl) ?_; (try simp only [Act.put, List.setIfInBounds_toArray, List.set_cons_zero, List.set_cons_succ]))
                      | (refine bits_pass (by rfl) ?_ ?_; (· repeat (first | (with_reducible (first | exact Keep.refl _ | refine Keep.left _ ?_ | refine Keep.drew ?_ | refine Keep.drewN ?_ _ | refine Keep.alloc ?_ _)) | (refine Keep.below ?_ (by with_reducible assumption)))); (try simp only [Act.put, List.setIfInBounds_toArray, List.set_cons_zero, List.set_cons_succ]))
                      | (refine bits_eff (by rfl) (fun K hK => ?_); go_simp; (try go_ints); (first | go_at_K); refine hK _ _ ?_ ?_; (· repeat (first | (with_reducible (first | exact Keep.refl _ | refine Keep.left _ ?_ | refine Keep.drew ?_ | refine Keep.drewN ?_ _ | refine Keep.alloc ?_ _)) | (refine Keep.below ?_ (by with_reducible assumption)))); clear hK K; (try simp only [Act.put, List.setIfInBounds_toArray, List.set_cons_zero, List.set_cons_succ])))
                    refine bits_nil ?_
                    go_wp2_with fail
                    go_roundw
                    case rel => exact ⟨i + 1, by omega, by go_num, HN.out, below_drewN BW.out 1⟩
                    case measure => simp [intOf]; omega
                  · have hpq := pneq_yes hpp
                    have HPP := Lib.hid hpp
                    clear hpp
                    have HZ : Hid (rowMay xs = false) := ref_bad hin (fun h => by have := (h.2.1 (by rw [HX.out]; exact eq_of_beq hw1)).2.2; rw [HZZ.out, HX.out] at this; exact HPP.out this)
                    go_wp2_with fail
                    refine wp_region_bits [(0, true), (1, true), (2, true), (3, true), (4, true), (5, true), (6, true), (7, true), (8, true), (9, true), (10, true), (11, true), (12, true), (13, true), (14, true), (15, true), (16, true), (17, true), (18, true), (19, true), (20, true), (21, true), (22, true), (23, true), (24, true), (25, true), (26, true), (27, true), (28, true), (29, true), (30, true), (31, true), (32, true), (33, true), (34, true), (35, true)] [] (by kernel_rfl) (by kernel_rfl) (fun c a d v w h => by cases d <;> exact h) ?_
                    simp only [bits_, bitOf, List.getElem?_cons_zero, List.getElem?_cons_succ, List.contains_nil]
                    repeat (first
                      | (refine bits_take (v := ?_) (by rfl) ?_ ?_; rotate_left; (· intro w' hS; go_simp; (repeat (rw [hS.at_]; rotate_left; (· go_simp); go_simp)); (try (go_ints; try go_simp)); with_reducible rfl); (try simp only [Act.put, List.setIfInBounds_toArray, List.set_cons_zero, List.set_cons_succ]))
                      | (refine bits_skip (by rfl) ?_; (try simp only [Act.put, List.setIfInBounds_toArray, List.set_cons_zero, List.set_cons_succ]))
                      | (refine bits_pass (by rfl) ?_ ?_; (· repeat (first | (with_reducible (first | exact Keep.refl _ | refine Keep.left _ ?_ | refine Keep.drew ?_ | refine Keep.drewN ?_ _ | refine Keep.alloc ?_ _)) | (refine Keep.below ?_ (by with_reducible assumption)))); (try simp only [Act.put, List.setIfInBounds_toArray, List.set_cons_zero, List.set_cons_succ]))
                      | (refine bits_eff (by rfl) (fun K hK => ?_); go_simp; (try go_ints); (first | go_at_K); refine hK _ _ ?_ ?_; (· repeat (first | (with_reducible (first | exact Keep.refl _ | refine Keep.left _ ?_ | refine Keep.drew ?_ | refine Keep.drewN ?_ _ | refine Keep.alloc ?_ _)) | (refine Keep.below ?_ (by with_reducible assumption)))); clear hK K; (try simp only [Act.put, List.setIfInBounds_toArray, List.set_cons_zero, List.set_cons_succ])))
                    refine bits_nil ?_
                    go_wp2_with fail
                    go_ret
                    exact ⟨by rw [HZ.out]; rfl, below_drewN BW.out 1⟩
              · have hde : ((i : Int) == (xs.length : Int) - 1) = true := beq_iff_eq.2 (by omega)
                have HZ : Hid (rowMay xs = false) := ref_bad hin (fun h => hil (h.2.1 (by rw [HX.out]; exact eq_of_beq hw1)).1)
                go_wp2_with fail
                refine wp_region_bits [(0, true), (1, true), (2, true), (3, true), (4, true), (5, true), (6, true), (7, true), (8, true), (9, true), (10, true), (11, true), (12, true), (13, true), (14, true), (15, true), (16, true), (17, true), (18, true), (19, true), (20, true), (21, true), (22, true), (23, true), (24, true), (25, true), (26, true), (27, true), (28, true), (29, true), (30, true), (31, true), (32, true), (33, true), (34, true), (35, true)] [] (by kernel_rfl) (by kernel_rfl) (fun c a d v w h => by cases d <;> exact h) ?_
                simp only [bits_, bitOf, List.getElem?_cons_zero, List.getElem?_cons_succ, List.contains_nil]
                repeat (first
                  | (refine bits_take (v := ?_) (by rfl) ?_ ?_; rotate_left; (· intro w' hS; go_simp; (repeat (rw [hS.at_]; rotate_left; (· go_simp); go_simp)); (try (go_ints; try go_simp)); with_reducible rfl); (try simp only [Act.put, List.setIfInBounds_toArray, List.set_cons_zero, List.set_cons_succ]))
                  | (refine bits_skip (by rfl) ?_; (try simp only [Act.put, List.setIfInBounds_toArray, List.set_cons_zero, List.set_cons_succ]))
                  | (refine bits_pass (by rfl) ?_ ?_; (· repeat (first | (with_reducible (first | exact Keep.refl _ | refine Keep.left _ ?_ | refine Keep.drew ?_ | refine Keep.drewN ?_ _ | refine Keep.alloc ?_ _)) | (refine Keep.below ?_ (by with_reducible assumption)))); (try simp only [Act.put, List.setIfInBounds_toArray, List.set_cons_zero, List.set_cons_succ]))
                  | (refine bits_eff (by rfl) (fun K hK => ?_); go_simp; (try go_ints); (first | go_at_K); refine hK _ _ ?_ ?_; (· repeat (first | (with_reducible (first | exact Keep.refl _ | refine Keep.left _ ?_ | refine Keep.drew ?_ | refine Keep.drewN ?_ _ | refine Keep.alloc ?_ _)) | (refine Keep.below ?_ (by with_reducible assumption)))); clear hK K; (try simp only [Act.put, List.setIfInBounds_toArray, List.set_cons_zero, List.set_cons_succ])))
                refine bits_nil ?_
                go_wp2_with fail
                go_ret
                exact ⟨by rw [HZ.out]; rfl, below_drewN BW.out 1⟩
            | false =>
              cases hw2 : (x.w == 2) with
              | false =>
                have HOK : Hid (CellOk xs i) := ⟨by rw [HX.out, HMB.out], fun k => (by rw [HX.out] at k; rw [k] at hw1; cases hw1), fun k => (by rw [HX.out] at k; rw [k] at hw2; cases hw2)⟩
                have HN : Hid (∀ j, j < i + 1 → CellOk xs j) := fun j hj => by
                  rcases Nat.lt_or_ge j i with q | q
                  · exact HR.out.1 j q
                  · obtain rfl : j = i := by omega
                    exact HOK.out
                go_wp2_with fail
                refine wp_region_bits [(0, true), (1, true), (2, true), (3, true), (4, true), (5, true), (6, true), (7, true), (8, true), (9, true), (10, true), (11, true), (12, true), (13, true), (14, true), (15, true), (16, true), (17, true), (18, true), (19, true), (20, true), (21, true), (22, true), (23, true), (24, true), (25, true), (26, true), (27, true), (28, true), (29, true), (30, true), (31, true), (32, true), (33, true), (34, true), (35, true)] [] (by kernel_rfl) (by kernel_rfl) (fun c a d v w h => by cases d <;> exact h) ?_
                simp only [bits_, bitOf, List.getElem?_cons_zero, List.getElem?_cons_succ, List.contains_nil]
                repeat (first
                  | (refine bits_take (v := ?_) (by rfl) ?_ ?_; rotate_left; (· intro w' hS; go_simp; (repeat (rw [hS.at_]; rotate_left; (· go_simp); go_simp)); (try (go_ints; try go_simp)); with_reducible rfl); (try simp only [Act.put, List.setIfInBounds_toArray, List.set_cons_zero, List.set_cons_succ]))
                  | (refine bits_skip (by rfl) ?_; (try simp only [Act.put, List.setIfInBounds_toArray, List.set_cons_zero, List.set_cons_succ]))
                  | (refine bits_pass (by rfl) ?_ ?_; (· repeat (first | (with_reducible (first | exact Keep.refl _ | refine Keep.left _ ?_ | refine Keep.drew ?_ | refine Keep.drewN ?_ _ | refine Keep.alloc ?_ _)) | (refine Keep.below ?_ (by with_reducible assumption)))); (try simp only [Act.put, List.setIfInBounds_toArray, List.set_cons_zero, List.set_cons_succ]))
                  | (refine bits_eff (by rfl) (fun K hK => ?_); go_simp; (try go_ints); (first | go_at_K); refine hK _ _ ?_ ?_; (· repeat (first | (with_reducible (first | exact Keep.refl _ | refine Keep.left _ ?_ | refine Keep.drew ?_ | refine Keep.drewN ?_ _ | refine Keep.alloc ?_ _)) | (refine Keep.below ?_ (by with_reducible assumption)))); clear hK K; (try simp only [Act.put, List.setIfInBounds_toArray, List.set_cons_zero, List.set_cons_succ])))
                refine bits_nil ?_
                go_wp2_with fail
                go_roundw
                case rel => exact ⟨i + 1, by omega, by go_num, HN.out, below_drewN BW.out 1⟩
                case measure => simp [intOf]; omega
              | true =>
                by_cases hpos : 0 < i
                · have hd0 : ((i : Int) == 0) = false := beq_eq_false_iff_ne.2 (by omega)
                  obtain ⟨p, hp⟩ : ∃ p, i = p + 1 := ⟨i - 1, by omega⟩
                  have hpi : (i : Int) - 1 = p := by omega
                  obtain ⟨y, hy⟩ : ∃ y, at_ xs (i - 1) = y := ⟨_, rfl⟩
                  have hpl2 : p < xs.length := by omega
                  have hgy := HBL.out p hpl2 w2 BW.out
                  rw [show p = i - 1 from by omega, hy, show i - 1 = p from by omega] at hgy
                  have y1 := hgy.2.1
                  have HY := Lib.hid hy
                  clear hp hy hgy
                  cases hyw : (y.w != 1) with
                  | true =>
                    have HZ : Hid (rowMay xs = false) := ref_bad hin (fun h => by have := (h.2.2 (by rw [HX.out]; exact eq_of_beq hw2)).2; rw [HY.out] at this; rw [this] at hyw; cases hyw)
                    go_wp2_with fail
                    refine wp_region_bits [(0, true), (1, true), (2, true), (3, true), (4, true), (5, true), (6, true), (7, true), (8, true), (9, true), (10, true), (11, true), (12, true), (13, true), (14, true), (15, true), (16, true), (17, true), (18, true), (19, true), (20, true), (21, true), (22, true), (23, true), (24, true), (25, true), (26, true), (27, true), (28, true), (29, true), (30, true), (31, true), (32, true), (33, true), (34, true), (35, true)] [] (by kernel_rfl) (by kernel_rfl) (fun c a d v w h => by cases d <;> exact h) ?_
                    simp only [bits_, bitOf, List.getElem?_cons_zero, List.getElem?_cons_succ, List.contains_nil]
                    repeat (first
                      | (refine bits_take (v := ?_) (by rfl) ?_ ?_; rotate_left; (· intro w' hS; go_simp; (repeat (rw [hS.at_]; rotate_left; (· go_simp); go_simp)); (try (go_ints; try go_simp)); with_reducible rfl); (try simp only [Act.put, List.setIfInBounds_toArray, List.set_cons_zero, List.set_cons_succ]))
                      | (refine bits_skip (by rfl) ?_; (try simp only [Act.put, List.setIfInBounds_toArray, List.set_cons_zero, List.set_cons_succ]))
                      | (refine bits_pass (by rfl) ?_ ?_; (· repeat (first | (with_reducible (first | exact Keep.refl _ | refine Keep.left _ ?_ | refine Keep.drew ?_ | refine Keep.drewN ?_ _ | refine Keep.alloc ?_ _)) | (refine Keep.below ?_ (by with_reducible assumption)))); (try simp only [Act.put, List.setIfInBounds_toArray, List.set_cons_zero, List.set_cons_succ]))
                      | (refine bits_eff (by rfl) (fun K hK => ?_); go_simp; (try go_ints); (first | go_at_K); refine hK _ _ ?_ ?_; (· repeat (first | (with_reducible (first | exact Keep.refl _ | refine Keep.left _ ?_ | refine Keep.drew ?_ | refine Keep.drewN ?_ _ | refine Keep.alloc ?_ _)) | (refine Keep.below ?_ (by with_reducible assumption)))); clear hK K; (try simp only [Act.put, List.setIfInBounds_toArray, List.set_cons_zero, List.set_cons_succ])))
                    refine bits_nil ?_
                    go_wp2_with fail
                    go_ret
                    exact ⟨by rw [HZ.out]; rfl, below_drewN BW.out 1⟩
                  | false =>
                    have HOK : Hid (CellOk xs i) := ⟨by rw [HX.out, HMB.out], fun k => (by rw [HX.out] at k; rw [k] at hw1; cases hw1), fun _ => ⟨hpos, by rw [HY.out]; simpa using hyw⟩⟩
                    have HN : Hid (∀ j, j < i + 1 → CellOk xs j) := fun j hj => by
                      rcases Nat.lt_or_ge j i with q | q
                      · exact HR.out.1 j q
                      · obtain rfl : j = i := by omega
                        exact HOK.out
                    go_wp2_with fail
                    refine wp_region_bits [(0, true), (1, true), (2, true), (3, true), (4, true), (5, true), (6, true), (7, true), (8, true), (9, true), (10, true), (11, true), (12, true), (13, true), (14, true), (15, true), (16, true), (17, true), (18, true), (19, true), (20, true), (21, true), (22, true), (23, true), (24, true), (25, true), (26, true), (27, true), (28, true), (29, true), (30, true), (31, true), (32, true), (33, true), (34, true), (35, true)] [] (by kernel_rfl) (by kernel_rfl) (fun c a d v w h => by cases d <;> exact h) ?_
                    simp only [bits_, bitOf, List.getElem?_cons_zero, List.getElem?_cons_succ, List.contains_nil]
                    repeat (first
                      | (refine bits_take (v := ?_) (by rfl) ?_ ?_; rotate_left; (· intro w' hS; go_simp; (repeat (rw [hS.at_]; rotate_left; (· go_simp); go_simp)); (try (go_ints; try go_simp)); with_reducible rfl); (try simp only [Act.put, List.setIfInBounds_toArray, List.set_cons_zero, List.set_cons_succ]))
                      | (refine bits_skip (by rfl) ?_; (try simp only [Act.put, List.setIfInBounds_toArray, List.set_cons_zero, List.set_cons_succ]))
                      | (refine bits_pass (by rfl) ?_ ?_; (· repeat (first | (with_reducible (first | exact Keep.refl _ | refine Keep.left _ ?_ | refine Keep.drew ?_ | refine Keep.drewN ?_ _ | refine Keep.alloc ?_ _)) | (refine Keep.below ?_ (by with_reducible assumption)))); (try simp only [Act.put, List.setIfInBounds_toArray, List.set_cons_zero, List.set_cons_succ]))
                      | (refine bits_eff (by rfl) (fun K hK => ?_); go_simp; (try go_ints); (first | go_at_K); refine hK _ _ ?_ ?_; (· repeat (first | (with_reducible (first | exact Keep.refl _ | refine Keep.left _ ?_ | refine Keep.drew ?_ | refine Keep.drewN ?_ _ | refine Keep.alloc ?_ _)) | (refine Keep.below ?_ (by with_reducible assumption)))); clear hK K; (try simp only [Act.put, List.setIfInBounds_toArray, List.set_cons_zero, List.set_cons_succ])))
                    refine bits_nil ?_
                    go_wp2_with fail
                    go_roundw
                    case rel => exact ⟨i + 1, by omega, by go_num, HN.out, below_drewN BW.out 1⟩
                    case measure => simp [intOf]; omega
                · have hd0 : ((i : Int) == 0) = true := beq_iff_eq.2 (by omega)
                  have HZ : Hid (rowMay xs = false) := ref_bad hin (fun h => hpos (h.2.2 (by rw [HX.out]; exact eq_of_beq hw2)).1)
                  go_wp2_with fail
                  refine wp_region_bits [(0, true), (1, true), (2, true), (3, true), (4, true), (5, true), (6, true), (7, true), (8, true), (9, true), (10, true), (11, true), (12, true), (13, true), (14, true), (15, true), (16, true), (17, true), (18, true), (19, true), (20, true), (21, true), (22, true), (23, true), (24, true), (25, true), (26, true), (27, true), (28, true), (29, true), (30, true), (31, true), (32, true), (33, true), (34, true), (35, true)] [] (by kernel_rfl) (by kernel_rfl) (fun c a d v w h => by cases d <;> exact h) ?_
                  simp only [bits_, bitOf, List.getElem?_cons_zero, List.getElem?_cons_succ, List.contains_nil]
                  repeat (first
                    | (refine bits_take (v := ?_) (by rfl) ?_ ?_; rotate_left; (· intro w' hS; go_simp; (repeat (rw [hS.at_]; rotate_left; (· go_simp); go_simp)); (try (go_ints; try go_simp)); with_reducible rfl); (try simp only [Act.put, List.setIfInBounds_toArray, List.set_cons_zero, List.set_cons_succ]))
                    | (refine bits_skip (by rfl) ?_; (try simp only [Act.put, List.setIfInBounds_toArray, List.set_cons_zero, List.set_cons_succ]))
                    | (refine bits_pass (by rfl) ?_ ?_; (· repeat (first | (with_reducible (first | exact Keep.refl _ | refine Keep.left _ ?_ | refine Keep.drew ?_ | refine Keep.drewN ?_ _ | refine Keep.alloc ?_ _)) | (refine Keep.below ?_ (by with_reducible assumption)))); (try simp only [Act.put, List.setIfInBounds_toArray, List.set_cons_zero, List.set_cons_succ]))
                    | (refine bits_eff (by rfl) (fun K hK => ?_); go_simp; (try go_ints); (first | go_at_K); refine hK _ _ ?_ ?_; (· repeat (first | (with_reducible (first | exact Keep.refl _ | refine Keep.left _ ?_ | refine Keep.drew ?_ | refine Keep.drewN ?_ _ | refine Keep.alloc ?_ _)) | (refine Keep.below ?_ (by with_reducible assumption)))); clear hK K; (try simp only [Act.put, List.setIfInBounds_toArray, List.set_cons_zero, List.set_cons_succ])))
                  refine bits_nil ?_
                  go_wp2_with fail
                  go_ret
                  exact ⟨by rw [HZ.out]; rfl, below_drewN BW.out 1⟩
        · obtain rfl : i = xs.length := by omega
          have HZ : Hid (rowMay xs = true) := row_yes ⟨h1, h2, HR.out.1⟩
          go_wp2_with fail
          go_ret
          exact ⟨by rw [HZ.out]; rfl, HR.out.2⟩
    · have hd2 : decide ((80 : Int) < xs.length) = true := decide_eq_true (by omega)
      have HZ := Lib.hid (row_no (xs := xs) (fun h => h2 h.2.1))
      clear h2
      go_enter Tryd.func21, Tryd.ntmps21
      go_wp2_with fail
      go_ret
      exact ⟨by rw [HZ.out]; rfl, Below.refl _ _⟩
  · have hd1 : ((xs.length : Int) == 0) = true := beq_iff_eq.2 (by omega)
    have HZ := Lib.hid (row_no (xs := xs) (fun h => h1 h.1))
    clear h1
    go_enter Tryd.func21, Tryd.ntmps21
    go_wp2_with fail
    go_ret
    exact ⟨by rw [HZ.out]; rfl, Below.refl _ _⟩
end Go.Proofs.YtlhcehealjdbdaaDoor
/- A whole cell stored into a row of the caller's own: as a law, the world left opaque. -/
namespace Go.Proofs.YtlhcehealjdbdaaDoor
open Go.RowKit
theorem grown_of_below {a b : World} (h : Below a.heap.size a b) (row : Option Nat) : a.grownBy b row := ⟨h.os, h.tape, h.output, h.size, fun k hk _ => h.block k hk⟩
theorem grown_trans {a b c : World} {row : Option Nat} (h : a.grownBy b row) (k : b.grownBy c row) : a.grownBy c row :=
  ⟨k.os.trans h.os, k.tape.trans h.tape, k.output.trans h.output, Nat.le_trans h.size k.size, fun i hi hne => (k.block i (Nat.lt_of_lt_of_le hi h.size) hne).trans (h.block i hi hne)⟩
theorem below_grown {B g : Nat} {a b c : World} (h : Below B a b) (k : b.grownBy c (some g)) (hg : B ≤ g) (hB : B ≤ b.heap.size) : Below B a c := h.grown k hB (fun j hj => by cases hj; exact hg)
theorem grown_drew (a : World) (row : Option Nat) : a.grownBy a.drew row := ⟨rfl, rfl, rfl, Nat.le_refl _, fun _ _ _ => rfl⟩
theorem gstore_run {w : World} {base g n c k : Nat} {xs : List Glyph} (d : Glyph) (hr : CRow w base (.slice (some ⟨g, 0, none⟩) n c) xs) (hk : k < n) :
    ∃ w', (Instr.storeAt 28 (.pointer (some ⟨g, k * 6, none⟩)) (.agg #[.int .i32 d.r, .int .u8 d.w, .int .u32 d.f, .int .u32 d.b, .int .u8 d.a, .int .u16 d.l])).run Tryd.prog w = .ok () w' ∧
      CRow w' base (.slice (some ⟨g, 0, none⟩) n c) (xs.set k d) ∧ w.grownBy w' (some g) := by
  obtain ⟨⟨p0, p1, p2, p3, p4, p5⟩, hbg, hfz⟩ := crow_at hr hk
  have f0 := hfz (k * 6)
  have f1 := hfz (k * 6 + 1)
  have f2 := hfz (k * 6 + 2)
  have f3 := hfz (k * 6 + 3)
  have f4 := hfz (k * 6 + 4)
  have f5 := hfz (k * 6 + 5)
  refine ⟨_, ?_, crow_set d hr hk, turn_store (turn_store (turn_store (turn_store (turn_store (turn_store (turn_refl w _) _ _) _ _) _ _) _ _) _ _) _ _⟩
  go_simp
section
variable {o : Oper} {a : Act} {w : World} {Q : Exit → Act → World → Prop}
theorem gstore_op {K : Act → World → Prop} (p v : Operand) (ho : o.op = .store 28 p v) {base g n c k : Nat} {xs : List Glyph} {d : Glyph} (hp : a.eval p = .pointer (some ⟨g, k * 6, none⟩)) (hv : a.eval v = .agg #[.int .i32 d.r, .int .u8 d.w, .int .u32 d.f, .int .u32 d.b, .int .u8 d.a, .int .u16 d.l])
    (hr : CRow w base (.slice (some ⟨g, 0, none⟩) n c) xs) (hk : k < n) (h : ∀ w', CRow w' base (.slice (some ⟨g, 0, none⟩) n c) (xs.set k d) → w.grownBy w' (some g) → K (a.put o.dst undef) w') : Oper.wp Tryd.prog o a w K Q := by
  obtain ⟨w', hrun, h1, h2⟩ := gstore_run d hr hk
  unfold Oper.wp execOp
  simp only [ho, hp, hv, Sem.run_bind, hrun, Result.andThen_ok]
  simp only [Sem.run_pure, Oper.upon]
  exact h w' h1 h2
theorem gwide_run {w : World} {base g n c k : Nat} {xs : List Glyph} {z : Glyph} (u : Int) (hr : CRow w base (.slice (some ⟨g, 0, none⟩) n c) xs) (hk : k < n) (hz : xs.getD k g0 = z) :
    ∃ w', (Instr.storeAt 5 (.pointer (some ⟨g, k * 6 + 1, none⟩)) (.int .u8 u)).run Tryd.prog w = .ok () w' ∧
      CRow w' base (.slice (some ⟨g, 0, none⟩) n c) (xs.set k ⟨z.r, u, z.f, z.b, z.a, z.l⟩) ∧ w.grownBy w' (some g) := by
  subst hz
  obtain ⟨⟨_, p1, _⟩, hbg, hfz⟩ := crow_at hr hk
  have f1 := hfz (k * 6 + 1)
  refine ⟨_, ?_, crow_put (j := 1) (d := ⟨(xs.getD k g0).r, u, (xs.getD k g0).f, (xs.getD k g0).b, (xs.getD k g0).a, (xs.getD k g0).l⟩) (u := .int .u8 u) hr hk (by omega) rfl, turn_store (turn_refl w _) _ _⟩
  go_simp
theorem gwide_op {K : Act → World → Prop} (p v : Operand) (ho : o.op = .store 5 p v) {base g n c k : Nat} {xs : List Glyph} {z : Glyph} {u : Int} (hp : a.eval p = .pointer (some ⟨g, k * 6 + 1, none⟩)) (hv : a.eval v = .int .u8 u)
    (hr : CRow w base (.slice (some ⟨g, 0, none⟩) n c) xs) (hk : k < n) (hz : xs.getD k g0 = z) (h : ∀ w', CRow w' base (.slice (some ⟨g, 0, none⟩) n c) (xs.set k ⟨z.r, u, z.f, z.b, z.a, z.l⟩) → w.grownBy w' (some g) → K (a.put o.dst undef) w') : Oper.wp Tryd.prog o a w K Q := by
  obtain ⟨w', hrun, h1, h2⟩ := gwide_run u hr hk hz
  unfold Oper.wp execOp
  simp only [ho, hp, hv, Sem.run_bind, hrun, Result.andThen_ok]
  simp only [Sem.run_pure, Oper.upon]
  exact h w' h1 h2
theorem gstore_list {ops : Array Oper} {rest : List Oper} (hgd : o.guard = none) (p v : Operand) (ho : o.op = .store 28 p v) {base g n c k : Nat} {xs : List Glyph} {d : Glyph} (hp : a.eval p = .pointer (some ⟨g, k * 6, none⟩)) (hv : a.eval v = .agg #[.int .i32 d.r, .int .u8 d.w, .int .u32 d.f, .int .u32 d.b, .int .u8 d.a, .int .u16 d.l])
    (hr : CRow w base (.slice (some ⟨g, 0, none⟩) n c) xs) (hk : k < n) (h : ∀ w', CRow w' base (.slice (some ⟨g, 0, none⟩) n c) (xs.set k d) → w.grownBy w' (some g) → wpList Tryd.prog ops Q rest (a.put o.dst undef) w') : wpList Tryd.prog ops Q (o :: rest) a w := by
  refine wpList_plain hgd fun K hK => gstore_op p v ho hp hv hr hk fun w' h1 h2 => hK _ _ ?_
  exact h w' h1 h2
end
end Go.Proofs.YtlhcehealjdbdaaDoor
