/- Which rows may be: the document's walk. -/
import Derived.Test.YtlhcehealjdbdaaDoorRowMay
import Derived.Deep.DeepCutAuto
namespace Go.Proofs.YtlhcehealjdbdaaDoor
open Go.RowKit
attribute [local go_sem] alloc_drewN setCell_drewN


theorem ref_bad {xs : List Glyph} {i : Nat} (hi : i < xs.length) (h : ¬ CellOk xs i) : rowMay xs = false := row_no fun k => h (k.2.2 i hi)
def RrRel (xs : List Glyph) (i : Nat) (w wr : World) : Prop := (∀ j, j < i → CellOk xs j) ∧ Below w.heap.size w wr
set_option maxRecDepth 10000 in
set_option maxHeartbeats 2000000 in
theorem ref_row_any (a : Option Addr) (n c : Nat) (xs : List Glyph) (w : World) (hl : Cells w a n xs) : Calls Tryd.prog 21 #[.slice a n c] w (RVal (.bool (rowMay xs)) w) := by
  obtain rfl := hl.1
  have HL := Lib.hid hl
  have hn := hl.2.1
  clear hl
  by_cases h1 : 1 ≤ xs.length
  · have hd1 : ((xs.length : Int) == 0) = false := beq_eq_false_iff_ne.2 (by omega)
    by_cases h2 : xs.length ≤ 80
    · have hd2 : decide ((80 : Int) < xs.length) = false := decide_eq_false (by omega)
      go_enter Tryd.func21, Tryd.ntmps21
      go_wp2_with fail
      go_loopw [3] (fun v wr => ∃ i : Nat, i ≤ xs.length ∧ v = .int .i64 i ∧ Hid (RrRel xs i w wr)) (fun v _ => xs.length - (intOf v).toNat)
      case atStart => exact ⟨0, by omega, rfl, fun j h => absurd h (by omega), Below.refl _ _⟩
      case round =>
        obtain ⟨i, hi, rfl, HR⟩ := hrel
        by_cases hin : i < xs.length
        · obtain ⟨bl, off, rfl, hbl, hcc⟩ := HL.out.2.2 (by omega)
          obtain ⟨x, hx⟩ : ∃ x, at_ xs i = x := ⟨_, rfl⟩
          have HGX : Hid (GAt wr bl (off + i * 6) x) := by rw [← hx]; exact (hcc i hin).same fun p hp => HR.out.2.cell (by omega)
          obtain ⟨e0, e1, e2, e3, e4, e5⟩ := HGX.out
          have HX := Lib.hid hx
          have HBL : Hid (∀ j, j < xs.length → ∀ wz, Below w.heap.size w wz → GAt wz bl (off + j * 6) (at_ xs j)) := fun j hj wz hb => (hcc j hj).same fun p hp => hb.cell (by omega)
          obtain ⟨mb, hmb⟩ : ∃ mb, gmay x = mb := ⟨_, rfl⟩
          have HMB := Lib.hid hmb
          clear hmb hx hcc
          go_wp2_with fail
          refine (RVal.as (ref_may_any x _) (congrArg Value.bool HMB.out)).mono ?_
          rintro e w2 ⟨rfl, b2⟩
          have BW := Lib.hid (HR.out.2.trans (b2.mono HR.out.2.size))
          have HG2 := Lib.hid (HBL.out i hin w2 BW.out)
          rw [HX.out] at HG2
          clear e0 e1 e2 e3 e4 e5 b2
          obtain ⟨e0, e1, e2, e3, e4, e5⟩ := HG2.out
          cases mb with
          | false =>
            have HZ : Hid (rowMay xs = false) := ref_bad hin (fun h => by rw [CellOk, HX.out, HMB.out] at h; cases h.1)
            go_wp2_with fail
            skip
            go_ret
            exact ⟨by rw [HZ.out]; rfl, BW.out⟩
          | true =>
            cases hw1 : (x.w == 1) with
            | true =>
              have hw2 : (x.w == 2) = false := by rw [eq_of_beq hw1]; rfl
              by_cases hil : i + 1 < xs.length
              · have hde : ((i : Int) == (xs.length : Int) - 1) = false := beq_eq_false_iff_ne.2 (by omega)
                have hix0 : (0 : Int) ≤ (i : Int) + 1 := by omega
                have hix1 : (i : Int) + 1 < xs.length := by omega
                obtain ⟨z, hz⟩ : ∃ z, at_ xs (i + 1) = z := ⟨_, rfl⟩
                have HGZ := Lib.hid (HBL.out (i + 1) hil w2 BW.out)
                rw [hz] at HGZ
                obtain ⟨_, z1, z2, z3, z4, z5⟩ := HGZ.out
                have HZZ := Lib.hid hz
                clear hz
                cases hzw : (z.w != 2) with
                | true =>
                  have HZ : Hid (rowMay xs = false) := ref_bad hin (fun h => by have := (h.2.1 (by rw [HX.out]; exact eq_of_beq hw1)).2.1; rw [HZZ.out] at this; rw [this] at hzw; cases hzw)
                  go_wp2_with fail
                  refine wp_region_bits [(0, true), (1, true), (2, true), (3, true), (4, true), (5, true), (6, true), (7, true), (8, true), (9, true), (10, true), (11, true), (12, true), (13, true), (14, true), (15, true), (16, true), (17, true), (18, true), (19, true), (20, true), (21, true), (22, true), (23, true), (24, true), (25, true), (26, true), (27, true), (28, true), (29, true), (30, true), (31, true), (32, true), (33, true), (34, true), (35, true)] [] (by kernel_rfl) (by kernel_rfl) (fun c a d v w h => by cases d <;> exact h) ?_
                  simp only [bits_, bitOf, List.getElem?_cons_zero, List.getElem?_cons_succ, List.contains_nil]
                  repeat (first
                    | (refine bits_take (v := ?_) (by rfl) ?_ ?_; rotate_left; (· intro w' hS; go_simp; (repeat (rw [hS.at_]; rotate_left; (· go_simp); go_simp)); (try (go_ints; try go_simp)); with_reducible rfl); (try simp only [Act.put, List.setIfInBounds_toArray, List.set_cons_zero, List.set_cons_succ]))
                    | (refine bits_skip (by rfl) ?_; (try simp only [Act.put, List.setIfInBounds_toArray, List.set_cons_zero, List.set_cons_succ]))
                    | (refine bits_pass (by rfl) ?_ ?_; (· repeat (first | (with_reducible (first | exact Keep.refl _ | refine Keep.left _ ?_ | refine Keep.drew ?_ | refine Keep.drewN ?_ _ | refine Keep.alloc ?_ _)) | (refine Keep.below ?_ (by with_reducible assumption)))); (try simp only [Act.put, List.setIfInBounds_toArray, List.set_cons_zero, List.set_cons_succ]))
                    | (refine bits_eff (by rfl) (fun K hK => ?_); go_simp; (try go_ints); (first | go_at_K); refine hK _ _ ?_ ?_; (· repeat (first | (with_reducible (first | exact Keep.refl _ | refine Keep.left _ ?_ | refine Keep.drew ?_ | refine Keep.drewN ?_ _ | refine Keep.alloc ?_ _)) | (refine Keep.below ?_ (by with_reducible assumption)))); clear hK K; (try simp only [Act.put, List.setIfInBounds_toArray, List.set_cons_zero, List.set_cons_succ])))
                  refine bits_nil ?_
                  go_wp2_with fail
                  go_ret
                  exact ⟨by rw [HZ.out]; rfl, below_drewN BW.out 1⟩
                | false =>
                  by_cases hpp : z.pen = x.pen
                  · have hpq := pneq_no hpp
                    have HPP := Lib.hid hpp
                    clear hpp
                    have HOK : Hid (CellOk xs i) := ⟨by rw [HX.out, HMB.out], fun _ => ⟨hil, by rw [HZZ.out]; simpa using hzw, by rw [HX.out, HZZ.out]; exact HPP.out⟩, fun k => by rw [HX.out] at k; rw [k] at hw2; cases hw2⟩
                    have HN : Hid (∀ j, j < i + 1 → CellOk xs j) := fun j hj => by
                      rcases Nat.lt_or_ge j i with q | q
                      · exact HR.out.1 j q
                      · obtain rfl : j = i := by omega
                        exact HOK.out
                    go_wp2_with fail
                    refine wp_region_bits [(0, true), (1, true), (2, true), (3, true), (4, true), (5, true), (6, true), (7, true), (8, true), (9, true), (10, true), (11, true), (12, true), (13, true), (14, true), (15, true), (16, true), (17, true), (18, true), (19, true), (20, true), (21, true), (22, true), (23, true), (24, true), (25, true), (26, true), (27, true), (28, true), (29, true), (30, true), (31, true), (32, true), (33, true), (34, true), (35, true)] [] (by kernel_rfl) (by kernel_rfl) (fun c a d v w h => by cases d <;> exact h) ?_
                    simp only [bits_, bitOf, List.getElem?_cons_zero, List.getElem?_cons_succ, List.contains_nil]
                    repeat (first
                      | (refine bits_take (v := ?_) (by rfl) ?_ ?_; rotate_left; (· intro w' hS; go_simp; (repeat (rw [hS.at_]; rotate_left; (· go_simp); go_simp)); (try (go_ints; try go_simp)); with_reducible rfl); (try simp only [Act.put, List.setIfInBounds_toArray, List.set_cons_zero, List.set_cons_succ]))
                      | (refine bits_skip (by rfl) ?_; (try simp only [Act.put, List.setIfInBounds_toArray, List.set_cons_zero, List.set_cons_succ]))
                      | (refine bits_pass (by rfl) ?_ ?_; (· repeat (first | (with_reducible (first | exact Keep.refl _ | refine Keep.left _ ?_ | refine Keep.drew ?_ | refine Keep.drewN ?_ _ | refine Keep.alloc ?_ _)) | (refine Keep.below ?_ (by with_reducible assumption)))); (try simp only [Act.put, List.setIfInBounds_toArray, List.set_cons_zero, List.set_cons_succ]))
                      | (refine bits_eff (by rfl) (fun K hK => ?_); go_simp; (try go_ints); (first | go_at_K); refine hK _ _ ?_ ?_; (· repeat (first | (with_reducible (first | exact Keep.refl _ | refine Keep.left _ ?_ | refine Keep.drew ?_ | refine Keep.drewN ?_ _ | refine Keep.alloc ?_ _)) | (refine Keep.below ?_ (by with_reducible assumption)))); clear hK K; (try simp only [Act.put, List.setIfInBounds_toArray, List.set_cons_zero, List.set_cons_succ])))
                    refine bits_nil ?_
                    go_wp2_with fail
                    go_roundw
                    case rel => exact ⟨i + 1, by omega, by go_num, HN.out, below_drewN BW.out 1⟩
                    case measure => simp [intOf]; omega
                  · have hpq := pneq_yes hpp
                    have HPP := Lib.hid hpp
                    clear hpp
                    have HZ : Hid (rowMay xs = false) := ref_bad hin (fun h => by have := (h.2.1 (by rw [HX.out]; exact eq_of_beq hw1)).2.2; rw [HZZ.out, HX.out] at this; exact HPP.out this)
                    go_wp2_with fail
                    refine wp_region_bits [(0, true), (1, true), (2, true), (3, true), (4, true), (5, true), (6, true), (7, true), (8, true), (9, true), (10, true), (11, true), (12, true), (13, true), (14, true), (15, true), (16, true), (17, true), (18, true), (19, true), (20, true), (21, true), (22, true), (23, true), (24, true), (25, true), (26, true), (27, true), (28, true), (29, true), (30, true), (31, true), (32, true), (33, true), (34, true), (35, true)] [] (by kernel_rfl) (by kernel_rfl) (fun c a d v w h => by cases d <;> exact h) ?_
                    simp only [bits_, bitOf, List.getElem?_cons_zero, List.getElem?_cons_succ, List.contains_nil]
                    repeat (first
                      | (refine bits_take (v := ?_) (by rfl) ?_ ?_; rotate_left; (· intro w' hS; go_simp; (repeat (rw [hS.at_]; rotate_left; (· go_simp); go_simp)); (try (go_ints; try go_simp)); with_reducible rfl); (try simp only [Act.put, List.setIfInBounds_toArray, List.set_cons_zero, List.set_cons_succ]))
                      | (refine bits_skip (by rfl) ?_; (try simp only [Act.put, List.setIfInBounds_toArray, List.set_cons_zero, List.set_cons_succ]))
                      | (refine bits_pass (by rfl) ?_ ?_; (· repeat (first | (with_reducible (first | exact Keep.refl _ | refine Keep.left _ ?_ | refine Keep.drew ?_ | refine Keep.drewN ?_ _ | refine Keep.alloc ?_ _)) | (refine Keep.below ?_ (by with_reducible assumption)))); (try simp only [Act.put, List.setIfInBounds_toArray, List.set_cons_zero, List.set_cons_succ]))
                      | (refine bits_eff (by rfl) (fun K hK => ?_); go_simp; (try go_ints); (first | go_at_K); refine hK _ _ ?_ ?_; (· repeat (first | (with_reducible (first | exact Keep.refl _ | refine Keep.left _ ?_ | refine Keep.drew ?_ | refine Keep.drewN ?_ _ | refine Keep.alloc ?_ _)) | (refine Keep.below ?_ (by with_reducible assumption)))); clear hK K; (try simp only [Act.put, List.setIfInBounds_toArray, List.set_cons_zero, List.set_cons_succ])))
                    refine bits_nil ?_
                    go_wp2_with fail
                    go_ret
                    exact ⟨by rw [HZ.out]; rfl, below_drewN BW.out 1⟩
              · have hde : ((i : Int) == (xs.length : Int) - 1) = true := beq_iff_eq.2 (by omega)
                have HZ : Hid (rowMay xs = false) := ref_bad hin (fun h => hil (h.2.1 (by rw [HX.out]; exact eq_of_beq hw1)).1)
                go_wp2_with fail
                refine wp_region_bits [(0, true), (1, true), (2, true), (3, true), (4, true), (5, true), (6, true), (7, true), (8, true), (9, true), (10, true), (11, true), (12, true), (13, true), (14, true), (15, true), (16, true), (17, true), (18, true), (19, true), (20, true), (21, true), (22, true), (23, true), (24, true), (25, true), (26, true), (27, true), (28, true), (29, true), (30, true), (31, true), (32, true), (33, true), (34, true), (35, true)] [] (by kernel_rfl) (by kernel_rfl) (fun c a d v w h => by cases d <;> exact h) ?_
                simp only [bits_, bitOf, List.getElem?_cons_zero, List.getElem?_cons_succ, List.contains_nil]
                repeat (first
                  | (refine bits_take (v := ?_) (by rfl) ?_ ?_; rotate_left; (· intro w' hS; go_simp; (repeat (rw [hS.at_]; rotate_left; (· go_simp); go_simp)); (try (go_ints; try go_simp)); with_reducible rfl); (try simp only [Act.put, List.setIfInBounds_toArray, List.set_cons_zero, List.set_cons_succ]))
                  | (refine bits_skip (by rfl) ?_; (try simp only [Act.put, List.setIfInBounds_toArray, List.set_cons_zero, List.set_cons_succ]))
                  | (refine bits_pass (by rfl) ?_ ?_; (· repeat (first | (with_reducible (first | exact Keep.refl _ | refine Keep.left _ ?_ | refine Keep.drew ?_ | refine Keep.drewN ?_ _ | refine Keep.alloc ?_ _)) | (refine Keep.below ?_ (by with_reducible assumption)))); (try simp only [Act.put, List.setIfInBounds_toArray, List.set_cons_zero, List.set_cons_succ]))
                  | (refine bits_eff (by rfl) (fun K hK => ?_); go_simp; (try go_ints); (first | go_at_K); refine hK _ _ ?_ ?_; (· repeat (first | (with_reducible (first | exact Keep.refl _ | refine Keep.left _ ?_ | refine Keep.drew ?_ | refine Keep.drewN ?_ _ | refine Keep.alloc ?_ _)) | (refine Keep.below ?_ (by with_reducible assumption)))); clear hK K; (try simp only [Act.put, List.setIfInBounds_toArray, List.set_cons_zero, List.set_cons_succ])))
                refine bits_nil ?_
                go_wp2_with fail
                go_ret
                exact ⟨by rw [HZ.out]; rfl, below_drewN BW.out 1⟩
            | false =>
              cases hw2 : (x.w == 2) with
              | false =>
                have HOK : Hid (CellOk xs i) := ⟨by rw [HX.out, HMB.out], fun k => (by rw [HX.out] at k; rw [k] at hw1; cases hw1), fun k => (by rw [HX.out] at k; rw [k] at hw2; cases hw2)⟩
                have HN : Hid (∀ j, j < i + 1 → CellOk xs j) := fun j hj => by
                  rcases Nat.lt_or_ge j i with q | q
                  · exact HR.out.1 j q
                  · obtain rfl : j = i := by omega
                    exact HOK.out
                go_wp2_with fail
                refine wp_region_bits [(0, true), (1, true), (2, true), (3, true), (4, true), (5, true), (6, true), (7, true), (8, true), (9, true), (10, true), (11, true), (12, true), (13, true), (14, true), (15, true), (16, true), (17, true), (18, true), (19, true), (20, true), (21, true), (22, true), (23, true), (24, true), (25, true), (26, true), (27, true), (28, true), (29, true), (30, true), (31, true), (32, true), (33, true), (34, true), (35, true)] [] (by kernel_rfl) (by kernel_rfl) (fun c a d v w h => by cases d <;> exact h) ?_
                simp only [bits_, bitOf, List.getElem?_cons_zero, List.getElem?_cons_succ, List.contains_nil]
                repeat (first
                  | (refine bits_take (v := ?_) (by rfl) ?_ ?_; rotate_left; (· intro w' hS; go_simp; (repeat (rw [hS.at_]; rotate_left; (· go_simp); go_simp)); (try (go_ints; try go_simp)); with_reducible rfl); (try simp only [Act.put, List.setIfInBounds_toArray, List.set_cons_zero, List.set_cons_succ]))
                  | (refine bits_skip (by rfl) ?_; (try simp only [Act.put, List.setIfInBounds_toArray, List.set_cons_zero, List.set_cons_succ]))
                  | (refine bits_pass (by rfl) ?_ ?_; (· repeat (first | (with_reducible (first | exact Keep.refl _ | refine Keep.left _ ?_ | refine Keep.drew ?_ | refine Keep.drewN ?_ _ | refine Keep.alloc ?_ _)) | (refine Keep.below ?_ (by with_reducible assumption)))); (try simp only [Act.put, List.setIfInBounds_toArray, List.set_cons_zero, List.set_cons_succ]))
                  | (refine bits_eff (by rfl) (fun K hK => ?_); go_simp; (try go_ints); (first | go_at_K); refine hK _ _ ?_ ?_; (· repeat (first | (with_reducible (first | exact Keep.refl _ | refine Keep.left _ ?_ | refine Keep.drew ?_ | refine Keep.drewN ?_ _ | refine Keep.alloc ?_ _)) | (refine Keep.below ?_ (by with_reducible assumption)))); clear hK K; (try simp only [Act.put, List.setIfInBounds_toArray, List.set_cons_zero, List.set_cons_succ])))
                refine bits_nil ?_
                go_wp2_with fail
                go_roundw
                case rel => exact ⟨i + 1, by omega, by go_num, HN.out, below_drewN BW.out 1⟩
                case measure => simp [intOf]; omega
              | true =>
                by_cases hpos : 0 < i
                · have hd0 : ((i : Int) == 0) = false := beq_eq_false_iff_ne.2 (by omega)
                  obtain ⟨p, hp⟩ : ∃ p, i = p + 1 := ⟨i - 1, by omega⟩
                  have hpi : (i : Int) - 1 = p := by omega
                  obtain ⟨y, hy⟩ : ∃ y, at_ xs (i - 1) = y := ⟨_, rfl⟩
                  have hpl2 : p < xs.length := by omega
                  have hgy := HBL.out p hpl2 w2 BW.out
                  rw [show p = i - 1 from by omega, hy, show i - 1 = p from by omega] at hgy
                  have y1 := hgy.2.1
                  have HY := Lib.hid hy
                  clear hp hy hgy
                  cases hyw : (y.w != 1) with
                  | true =>
                    have HZ : Hid (rowMay xs = false) := ref_bad hin (fun h => by have := (h.2.2 (by rw [HX.out]; exact eq_of_beq hw2)).2; rw [HY.out] at this; rw [this] at hyw; cases hyw)
                    go_wp2_with fail
                    refine wp_region_bits [(0, true), (1, true), (2, true), (3, true), (4, true), (5, true), (6, true), (7, true), (8, true), (9, true), (10, true), (11, true), (12, true), (13, true), (14, true), (15, true), (16, true), (17, true), (18, true), (19, true), (20, true), (21, true), (22, true), (23, true), (24, true), (25, true), (26, true), (27, true), (28, true), (29, true), (30, true), (31, true), (32, true), (33, true), (34, true), (35, true)] [] (by kernel_rfl) (by kernel_rfl) (fun c a d v w h => by cases d <;> exact h) ?_
                    simp only [bits_, bitOf, List.getElem?_cons_zero, List.getElem?_cons_succ, List.contains_nil]
                    repeat (first
                      | (refine bits_take (v := ?_) (by rfl) ?_ ?_; rotate_left; (· intro w' hS; go_simp; (repeat (rw [hS.at_]; rotate_left; (· go_simp); go_simp)); (try (go_ints; try go_simp)); with_reducible rfl); (try simp only [Act.put, List.setIfInBounds_toArray, List.set_cons_zero, List.set_cons_succ]))
                      | (refine bits_skip (by rfl) ?_; (try simp only [Act.put, List.setIfInBounds_toArray, List.set_cons_zero, List.set_cons_succ]))
                      | (refine bits_pass (by rfl) ?_ ?_; (· repeat (first | (with_reducible (first | exact Keep.refl _ | refine Keep.left _ ?_ | refine Keep.drew ?_ | refine Keep.drewN ?_ _ | refine Keep.alloc ?_ _)) | (refine Keep.below ?_ (by with_reducible assumption)))); (try simp only [Act.put, List.setIfInBounds_toArray, List.set_cons_zero, List.set_cons_succ]))
                      | (refine bits_eff (by rfl) (fun K hK => ?_); go_simp; (try go_ints); (first | go_at_K); refine hK _ _ ?_ ?_; (· repeat (first | (with_reducible (first | exact Keep.refl _ | refine Keep.left _ ?_ | refine Keep.drew ?_ | refine Keep.drewN ?_ _ | refine Keep.alloc ?_ _)) | (refine Keep.below ?_ (by with_reducible assumption)))); clear hK K; (try simp only [Act.put, List.setIfInBounds_toArray, List.set_cons_zero, List.set_cons_succ])))
                    refine bits_nil ?_
                    go_wp2_with fail
                    go_ret
                    exact ⟨by rw [HZ.out]; rfl, below_drewN BW.out 1⟩
                  | false =>
                    have HOK : Hid (CellOk xs i) := ⟨by rw [HX.out, HMB.out], fun k => (by rw [HX.out] at k; rw [k] at hw1; cases hw1), fun _ => ⟨hpos, by rw [HY.out]; simpa using hyw⟩⟩
                    have HN : Hid (∀ j, j < i + 1 → CellOk xs j) := fun j hj => by
                      rcases Nat.lt_or_ge j i with q | q
                      · exact HR.out.1 j q
                      · obtain rfl : j = i := by omega
                        exact HOK.out
                    go_wp2_with fail
                    refine wp_region_bits [(0, true), (1, true), (2, true), (3, true), (4, true), (5, true), (6, true), (7, true), (8, true), (9, true), (10, true), (11, true), (12, true), (13, true), (14, true), (15, true), (16, true), (17, true), (18, true), (19, true), (20, true), (21, true), (22, true), (23, true), (24, true), (25, true), (26, true), (27, true), (28, true), (29, true), (30, true), (31, true), (32, true), (33, true), (34, true), (35, true)] [] (by kernel_rfl) (by kernel_rfl) (fun c a d v w h => by cases d <;> exact h) ?_
                    simp only [bits_, bitOf, List.getElem?_cons_zero, List.getElem?_cons_succ, List.contains_nil]
                    repeat (first
                      | (refine bits_take (v := ?_) (by rfl) ?_ ?_; rotate_left; (· intro w' hS; go_simp; (repeat (rw [hS.at_]; rotate_left; (· go_simp); go_simp)); (try (go_ints; try go_simp)); with_reducible rfl); (try simp only [Act.put, List.setIfInBounds_toArray, List.set_cons_zero, List.set_cons_succ]))
                      | (refine bits_skip (by rfl) ?_; (try simp only [Act.put, List.setIfInBounds_toArray, List.set_cons_zero, List.set_cons_succ]))
                      | (refine bits_pass (by rfl) ?_ ?_; (· repeat (first | (with_reducible (first | exact Keep.refl _ | refine Keep.left _ ?_ | refine Keep.drew ?_ | refine Keep.drewN ?_ _ | refine Keep.alloc ?_ _)) | (refine Keep.below ?_ (by with_reducible assumption)))); (try simp only [Act.put, List.setIfInBounds_toArray, List.set_cons_zero, List.set_cons_succ]))
                      | (refine bits_eff (by rfl) (fun K hK => ?_); go_simp; (try go_ints); (first | go_at_K); refine hK _ _ ?_ ?_; (· repeat (first | (with_reducible (first | exact Keep.refl _ | refine Keep.left _ ?_ | refine Keep.drew ?_ | refine Keep.drewN ?_ _ | refine Keep.alloc ?_ _)) | (refine Keep.below ?_ (by with_reducible assumption)))); clear hK K; (try simp only [Act.put, List.setIfInBounds_toArray, List.set_cons_zero, List.set_cons_succ])))
                    refine bits_nil ?_
                    go_wp2_with fail
                    go_roundw
                    case rel => exact ⟨i + 1, by omega, by go_num, HN.out, below_drewN BW.out 1⟩
                    case measure => simp [intOf]; omega
                · have hd0 : ((i : Int) == 0) = true := beq_iff_eq.2 (by omega)
                  have HZ : Hid (rowMay xs = false) := ref_bad hin (fun h => hpos (h.2.2 (by rw [HX.out]; exact eq_of_beq hw2)).1)
                  go_wp2_with fail
                  refine wp_region_bits [(0, true), (1, true), (2, true), (3, true), (4, true), (5, true), (6, true), (7, true), (8, true), (9, true), (10, true), (11, true), (12, true), (13, true), (14, true), (15, true), (16, true), (17, true), (18, true), (19, true), (20, true), (21, true), (22, true), (23, true), (24, true), (25, true), (26, true), (27, true), (28, true), (29, true), (30, true), (31, true), (32, true), (33, true), (34, true), (35, true)] [] (by kernel_rfl) (by kernel_rfl) (fun c a d v w h => by cases d <;> exact h) ?_
                  simp only [bits_, bitOf, List.getElem?_cons_zero, List.getElem?_cons_succ, List.contains_nil]
                  repeat (first
                    | (refine bits_take (v := ?_) (by rfl) ?_ ?_; rotate_left; (· intro w' hS; go_simp; (repeat (rw [hS.at_]; rotate_left; (· go_simp); go_simp)); (try (go_ints; try go_simp)); with_reducible rfl); (try simp only [Act.put, List.setIfInBounds_toArray, List.set_cons_zero, List.set_cons_succ]))
                    | (refine bits_skip (by rfl) ?_; (try simp only [Act.put, List.setIfInBounds_toArray, List.set_cons_zero, List.set_cons_succ]))
                    | (refine bits_pass (by rfl) ?_ ?_; (· repeat (first | (with_reducible (first | exact Keep.refl _ | refine Keep.left _ ?_ | refine Keep.drew ?_ | refine Keep.drewN ?_ _ | refine Keep.alloc ?_ _)) | (refine Keep.below ?_ (by with_reducible assumption)))); (try simp only [Act.put, List.setIfInBounds_toArray, List.set_cons_zero, List.set_cons_succ]))
                    | (refine bits_eff (by rfl) (fun K hK => ?_); go_simp; (try go_ints); (first | go_at_K); refine hK _ _ ?_ ?_; (· repeat (first | (with_reducible (first | exact Keep.refl _ | refine Keep.left _ ?_ | refine Keep.drew ?_ | refine Keep.drewN ?_ _ | refine Keep.alloc ?_ _)) | (refine Keep.below ?_ (by with_reducible assumption)))); clear hK K; (try simp only [Act.put, List.setIfInBounds_toArray, List.set_cons_zero, List.set_cons_succ])))
                  refine bits_nil ?_
                  go_wp2_with fail
                  go_ret
                  exact ⟨by rw [HZ.out]; rfl, below_drewN BW.out 1⟩
        · obtain rfl : i = xs.length := by omega
          have HZ : Hid (rowMay xs = true) := row_yes ⟨h1, h2, HR.out.1⟩
          go_wp2_with fail
          go_ret
          exact ⟨by rw [HZ.out]; rfl, HR.out.2⟩
    · have hd2 : decide ((80 : Int) < xs.length) = true := decide_eq_true (by omega)
      have HZ := Lib.hid (row_no (xs := xs) (fun h => h2 h.2.1))
      clear h2
      go_enter Tryd.func21, Tryd.ntmps21
      go_wp2_with fail
      go_ret
      exact ⟨by rw [HZ.out]; rfl, Below.refl _ _⟩
  · have hd1 : ((xs.length : Int) == 0) = true := beq_iff_eq.2 (by omega)
    have HZ := Lib.hid (row_no (xs := xs) (fun h => h1 h.1))
    clear h1
    go_enter Tryd.func21, Tryd.ntmps21
    go_wp2_with fail
    go_ret
    exact ⟨by rw [HZ.out]; rfl, Below.refl _ _⟩
end Go.Proofs.YtlhcehealjdbdaaDoor
