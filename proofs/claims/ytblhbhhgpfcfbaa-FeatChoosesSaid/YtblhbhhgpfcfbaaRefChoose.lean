/- What the document's choice is: the same as Choose's. -/
import Derived.Test.YtblhbhhgpfcfbaaRef
namespace Go.Proofs.Ytblhbhhgpfcfbaa
open Go.RowKit
attribute [local go_sem] alloc_drewN setCell_drewN


/-- What the document's Choose leaves: the same answer; four new blocks. -/
def RChPost (am bm af bf : Int) (w : World) (e : Ending) (w' : World) : Prop :=
  e = .returned (.tuple #[.agg #[.int .i64 (chV am bm), .int .u32 (chF am bm af bf)], .int .i64 (chE am bm)]) ∧ Below w.heap.size w w'
theorem rch_close {am bm af bf v f e : Int} {w : World} (h1 : chV am bm = v) (h2 : chF am bm af bf = f) (h3 : chE am bm = e) {w' : World} (hb : Below w.heap.size w w') :
    RChPost am bm af bf w (.returned (.tuple #[.agg #[.int .i64 v, .int .u32 f], .int .i64 e])) w' := by
  subst h1 h2 h3
  exact ⟨rfl, hb⟩
set_option maxHeartbeats 2000000 in
theorem rchoose_yes (am bm : Int) (x y : Nat) (w : World) (hx : x < 4294967296) (hy : y < 4294967296) (h : 1 ≤ am ∧ 1 ≤ bm ∧ am ≤ 3 ∧ bm ≤ 3) (hlt : am < bm) : Calls Try.prog 10 #[.agg #[.int .i64 am, .int .u32 x], .agg #[.int .i64 bm, .int .u32 y]] w (RChPost am bm x y w) := by
  have h1 := h.1
  have h2 := h.2.1
  have h3 := h.2.2.1
  have h4 := h.2.2.2
  have HM := Lib.hid (show min am bm = am by omega)
  go_enter Try.func10, Try.ntmps10
  go_wp2
  go_loopw [7] (fun i wr => ∃ k n : Nat, k ≤ 32 ∧ i = .int .i64 k ∧ wr = (((((w.alloc (.cells #[.int .i64 am, .int .u32 x] 24)).alloc (.cells #[.int .i64 bm, .int .u32 y] 24)).alloc (.cells #[.int .i64 0, .int .u32 0] 26)).alloc (.cells #[.int .i64 am, .int .u32 (low (chFN am bm x y) k : Nat)] 26)).drewN n)) (fun i _ => 32 - (intOf i).toNat)
  case atStart => exact ⟨0, 0, by omega, rfl, by rw [low_zero]; rfl⟩
  case round =>
    obtain ⟨k, n, hk, rfl, rfl⟩ := hrel
    by_cases hk2 : k < 32
    · rcases r_ways x y k am with hr | hr
      · have HL := Lib.hid (by have := choice_no (am := am) (bm := bm) (x := x) (y := y) (k := k) h hk2 (by rw [HM.out]; exact hr); exact this)
        rcases hr with c1 | ⟨c1, c2⟩ | ⟨c1, c2, c3⟩ | ⟨c1, c2, c3, c4⟩
        all_goals
          go_wp2_with (first | (go_at_call 14; refine (since_any _ _ (by omega)).mono ?_; rintro e w5 ⟨rfl, rfl⟩))
          refine wp_region_bits [(0, true), (1, true), (2, true), (3, true), (4, true), (5, true), (6, true), (7, true), (8, true), (9, true), (10, true), (11, true), (12, true), (13, true), (14, true), (15, true), (16, true), (17, true), (18, false), (19, true), (20, true), (21, true), (22, true), (24, true), (25, true), (23, false), (26, true), (27, true)] [] (by kernel_rfl) (by kernel_rfl) (fun c a d v w h => by cases d <;> exact h) ?_
          simp only [bits_, bitOf, List.getElem?_cons_zero, List.getElem?_cons_succ, List.contains_nil]
          repeat (first
            | (refine bits_take (v := ?_) (by rfl) ?_ ?_; rotate_left; (· intro w' hS; go_simp; (repeat (rw [hS.at_]; rotate_left; (· go_simp); go_simp)); (try (go_ints; try go_simp)); with_reducible rfl); (try simp only [Act.put, List.setIfInBounds_toArray, List.set_cons_zero, List.set_cons_succ]))
            | (refine bits_skip (by rfl) ?_; (try simp only [Act.put, List.setIfInBounds_toArray, List.set_cons_zero, List.set_cons_succ]))
            | (refine bits_pass (by rfl) ?_ ?_; (· repeat (first | (with_reducible (first | exact Keep.refl _ | refine Keep.left _ ?_ | refine Keep.drew ?_ | refine Keep.drewN ?_ _ | refine Keep.alloc ?_ _)) | (refine Keep.below ?_ (by assumption)))); (try simp only [Act.put, List.setIfInBounds_toArray, List.set_cons_zero, List.set_cons_succ]))
            | (refine bits_eff (by rfl) (fun K hK => ?_); go_simp; (try go_ints); (first | (go_at_call 14; refine (since_any _ _ (by omega)).mono ?_; rintro e w5 ⟨rfl, rfl⟩) | go_at_K); refine hK _ _ ?_ ?_; (· repeat (first | (with_reducible (first | exact Keep.refl _ | refine Keep.left _ ?_ | refine Keep.drew ?_ | refine Keep.drewN ?_ _ | refine Keep.alloc ?_ _)) | (refine Keep.below ?_ (by assumption)))); clear hK K; (try simp only [Act.put, List.setIfInBounds_toArray, List.set_cons_zero, List.set_cons_succ])))
          refine bits_nil ?_
          go_wp2
          go_roundw
          case rel => exact ⟨k + 1, _, by omega, by go_num, by rw [HL.out]⟩
          case measure => simp [intOf]; omega
      · have HL := Lib.hid (by have := choice_yes (am := am) (bm := bm) (x := x) (y := y) (k := k) h hk2 (by rw [HM.out]; exact hr); exact this)
        obtain ⟨c1, c2, c3, c4⟩ := hr
        go_wp2_with (first | (go_at_call 14; refine (since_any _ _ (by omega)).mono ?_; rintro e w5 ⟨rfl, rfl⟩))
        refine wp_region_bits [(0, true), (1, true), (2, true), (3, true), (4, true), (5, true), (6, true), (7, true), (8, true), (9, true), (10, true), (11, true), (12, true), (13, true), (14, true), (15, true), (16, true), (17, true), (18, false), (19, true), (20, true), (21, true), (22, true), (24, true), (25, true), (23, false), (26, true), (27, true)] [] (by kernel_rfl) (by kernel_rfl) (fun c a d v w h => by cases d <;> exact h) ?_
        simp only [bits_, bitOf, List.getElem?_cons_zero, List.getElem?_cons_succ, List.contains_nil]
        repeat (first
          | (refine bits_take (v := ?_) (by rfl) ?_ ?_; rotate_left; (· intro w' hS; go_simp; (repeat (rw [hS.at_]; rotate_left; (· go_simp); go_simp)); (try (go_ints; try go_simp)); with_reducible rfl); (try simp only [Act.put, List.setIfInBounds_toArray, List.set_cons_zero, List.set_cons_succ]))
          | (refine bits_skip (by rfl) ?_; (try simp only [Act.put, List.setIfInBounds_toArray, List.set_cons_zero, List.set_cons_succ]))
          | (refine bits_pass (by rfl) ?_ ?_; (· repeat (first | (with_reducible (first | exact Keep.refl _ | refine Keep.left _ ?_ | refine Keep.drew ?_ | refine Keep.drewN ?_ _ | refine Keep.alloc ?_ _)) | (refine Keep.below ?_ (by assumption)))); (try simp only [Act.put, List.setIfInBounds_toArray, List.set_cons_zero, List.set_cons_succ]))
          | (refine bits_eff (by rfl) (fun K hK => ?_); go_simp; (try go_ints); (first | (go_at_call 14; refine (since_any _ _ (by omega)).mono ?_; rintro e w5 ⟨rfl, rfl⟩) | go_at_K); refine hK _ _ ?_ ?_; (· repeat (first | (with_reducible (first | exact Keep.refl _ | refine Keep.left _ ?_ | refine Keep.drew ?_ | refine Keep.drewN ?_ _ | refine Keep.alloc ?_ _)) | (refine Keep.below ?_ (by assumption)))); clear hK K; (try simp only [Act.put, List.setIfInBounds_toArray, List.set_cons_zero, List.set_cons_succ])))
        refine bits_nil ?_
        go_wp2
        go_roundw
        case rel => exact ⟨k + 1, _, by omega, by go_num, by rw [HL.out]⟩
        case measure => simp [intOf]; omega
    · obtain rfl : k = 32 := by omega
      have HL := Lib.hid (low_all (chFN_lt am bm x y hx))
      go_wp2
      rw [HL.out]
      refine bodyPost_ret (v := .tuple #[.agg #[.int .i64 am, .int .u32 (chFN am bm x y)], .int .i64 0]) (by simp [results, Try.results10, go_sem]) rfl ?_
      exact rch_close (chV_yes h |>.trans (by omega)) (chF_N _ _ _ _ hx hy) (chE_yes h) (by repeat (with_reducible (first | exact Below.refl _ _ | refine below_drewN ?_ _ | refine Below.alloc ?_ (by simp; try omega) _)))
set_option maxHeartbeats 2000000 in
theorem rchoose_gt (am bm : Int) (x y : Nat) (w : World) (hx : x < 4294967296) (hy : y < 4294967296) (h : 1 ≤ am ∧ 1 ≤ bm ∧ am ≤ 3 ∧ bm ≤ 3) (hlt : bm < am) : Calls Try.prog 10 #[.agg #[.int .i64 am, .int .u32 x], .agg #[.int .i64 bm, .int .u32 y]] w (RChPost am bm x y w) := by
  have h1 := h.1
  have h2 := h.2.1
  have h3 := h.2.2.1
  have h4 := h.2.2.2
  have HM := Lib.hid (show min am bm = bm by omega)
  go_enter Try.func10, Try.ntmps10
  go_wp2
  go_loopw [7] (fun i wr => ∃ k n : Nat, k ≤ 32 ∧ i = .int .i64 k ∧ wr = (((((w.alloc (.cells #[.int .i64 am, .int .u32 x] 24)).alloc (.cells #[.int .i64 bm, .int .u32 y] 24)).alloc (.cells #[.int .i64 0, .int .u32 0] 26)).alloc (.cells #[.int .i64 bm, .int .u32 (low (chFN am bm x y) k : Nat)] 26)).drewN n)) (fun i _ => 32 - (intOf i).toNat)
  case atStart => exact ⟨0, 0, by omega, rfl, by rw [low_zero]; rfl⟩
  case round =>
    obtain ⟨k, n, hk, rfl, rfl⟩ := hrel
    by_cases hk2 : k < 32
    · rcases r_ways x y k bm with hr | hr
      · have HL := Lib.hid (by have := choice_no (am := am) (bm := bm) (x := x) (y := y) (k := k) h hk2 (by rw [HM.out]; exact hr); exact this)
        rcases hr with c1 | ⟨c1, c2⟩ | ⟨c1, c2, c3⟩ | ⟨c1, c2, c3, c4⟩
        all_goals
          go_wp2_with (first | (go_at_call 14; refine (since_any _ _ (by omega)).mono ?_; rintro e w5 ⟨rfl, rfl⟩))
          refine wp_region_bits [(0, true), (1, true), (2, true), (3, true), (4, true), (5, true), (6, true), (7, true), (8, true), (9, true), (10, true), (11, true), (12, true), (13, true), (14, true), (15, true), (16, true), (17, true), (18, false), (19, true), (20, true), (21, true), (22, true), (24, true), (25, true), (23, false), (26, true), (27, true)] [] (by kernel_rfl) (by kernel_rfl) (fun c a d v w h => by cases d <;> exact h) ?_
          simp only [bits_, bitOf, List.getElem?_cons_zero, List.getElem?_cons_succ, List.contains_nil]
          repeat (first
            | (refine bits_take (v := ?_) (by rfl) ?_ ?_; rotate_left; (· intro w' hS; go_simp; (repeat (rw [hS.at_]; rotate_left; (· go_simp); go_simp)); (try (go_ints; try go_simp)); with_reducible rfl); (try simp only [Act.put, List.setIfInBounds_toArray, List.set_cons_zero, List.set_cons_succ]))
            | (refine bits_skip (by rfl) ?_; (try simp only [Act.put, List.setIfInBounds_toArray, List.set_cons_zero, List.set_cons_succ]))
            | (refine bits_pass (by rfl) ?_ ?_; (· repeat (first | (with_reducible (first | exact Keep.refl _ | refine Keep.left _ ?_ | refine Keep.drew ?_ | refine Keep.drewN ?_ _ | refine Keep.alloc ?_ _)) | (refine Keep.below ?_ (by assumption)))); (try simp only [Act.put, List.setIfInBounds_toArray, List.set_cons_zero, List.set_cons_succ]))
            | (refine bits_eff (by rfl) (fun K hK => ?_); go_simp; (try go_ints); (first | (go_at_call 14; refine (since_any _ _ (by omega)).mono ?_; rintro e w5 ⟨rfl, rfl⟩) | go_at_K); refine hK _ _ ?_ ?_; (· repeat (first | (with_reducible (first | exact Keep.refl _ | refine Keep.left _ ?_ | refine Keep.drew ?_ | refine Keep.drewN ?_ _ | refine Keep.alloc ?_ _)) | (refine Keep.below ?_ (by assumption)))); clear hK K; (try simp only [Act.put, List.setIfInBounds_toArray, List.set_cons_zero, List.set_cons_succ])))
          refine bits_nil ?_
          go_wp2
          go_roundw
          case rel => exact ⟨k + 1, _, by omega, by go_num, by rw [HL.out]⟩
          case measure => simp [intOf]; omega
      · have HL := Lib.hid (by have := choice_yes (am := am) (bm := bm) (x := x) (y := y) (k := k) h hk2 (by rw [HM.out]; exact hr); exact this)
        obtain ⟨c1, c2, c3, c4⟩ := hr
        go_wp2_with (first | (go_at_call 14; refine (since_any _ _ (by omega)).mono ?_; rintro e w5 ⟨rfl, rfl⟩))
        refine wp_region_bits [(0, true), (1, true), (2, true), (3, true), (4, true), (5, true), (6, true), (7, true), (8, true), (9, true), (10, true), (11, true), (12, true), (13, true), (14, true), (15, true), (16, true), (17, true), (18, false), (19, true), (20, true), (21, true), (22, true), (24, true), (25, true), (23, false), (26, true), (27, true)] [] (by kernel_rfl) (by kernel_rfl) (fun c a d v w h => by cases d <;> exact h) ?_
        simp only [bits_, bitOf, List.getElem?_cons_zero, List.getElem?_cons_succ, List.contains_nil]
        repeat (first
          | (refine bits_take (v := ?_) (by rfl) ?_ ?_; rotate_left; (· intro w' hS; go_simp; (repeat (rw [hS.at_]; rotate_left; (· go_simp); go_simp)); (try (go_ints; try go_simp)); with_reducible rfl); (try simp only [Act.put, List.setIfInBounds_toArray, List.set_cons_zero, List.set_cons_succ]))
          | (refine bits_skip (by rfl) ?_; (try simp only [Act.put, List.setIfInBounds_toArray, List.set_cons_zero, List.set_cons_succ]))
          | (refine bits_pass (by rfl) ?_ ?_; (· repeat (first | (with_reducible (first | exact Keep.refl _ | refine Keep.left _ ?_ | refine Keep.drew ?_ | refine Keep.drewN ?_ _ | refine Keep.alloc ?_ _)) | (refine Keep.below ?_ (by assumption)))); (try simp only [Act.put, List.setIfInBounds_toArray, List.set_cons_zero, List.set_cons_succ]))
          | (refine bits_eff (by rfl) (fun K hK => ?_); go_simp; (try go_ints); (first | (go_at_call 14; refine (since_any _ _ (by omega)).mono ?_; rintro e w5 ⟨rfl, rfl⟩) | go_at_K); refine hK _ _ ?_ ?_; (· repeat (first | (with_reducible (first | exact Keep.refl _ | refine Keep.left _ ?_ | refine Keep.drew ?_ | refine Keep.drewN ?_ _ | refine Keep.alloc ?_ _)) | (refine Keep.below ?_ (by assumption)))); clear hK K; (try simp only [Act.put, List.setIfInBounds_toArray, List.set_cons_zero, List.set_cons_succ])))
        refine bits_nil ?_
        go_wp2
        go_roundw
        case rel => exact ⟨k + 1, _, by omega, by go_num, by rw [HL.out]⟩
        case measure => simp [intOf]; omega
    · obtain rfl : k = 32 := by omega
      have HL := Lib.hid (low_all (chFN_lt am bm x y hx))
      go_wp2
      rw [HL.out]
      refine bodyPost_ret (v := .tuple #[.agg #[.int .i64 bm, .int .u32 (chFN am bm x y)], .int .i64 0]) (by simp [results, Try.results10, go_sem]) rfl ?_
      exact rch_close (chV_yes h |>.trans (by omega)) (chF_N _ _ _ _ hx hy) (chE_yes h) (by repeat (with_reducible (first | exact Below.refl _ _ | refine below_drewN ?_ _ | refine Below.alloc ?_ (by simp; try omega) _)))
set_option maxHeartbeats 2000000 in
theorem rchoose_eq (am : Int) (x y : Nat) (w : World) (hx : x < 4294967296) (hy : y < 4294967296) (h : 1 ≤ am ∧ 1 ≤ am ∧ am ≤ 3 ∧ am ≤ 3) : Calls Try.prog 10 #[.agg #[.int .i64 am, .int .u32 x], .agg #[.int .i64 am, .int .u32 y]] w (RChPost am am x y w) := by
  have h1 := h.1
  have h3 := h.2.2.1
  have HM := Lib.hid (show min am am = am by omega)
  go_enter Try.func10, Try.ntmps10
  go_wp2
  go_loopw [7] (fun i wr => ∃ k n : Nat, k ≤ 32 ∧ i = .int .i64 k ∧ wr = (((((w.alloc (.cells #[.int .i64 am, .int .u32 x] 24)).alloc (.cells #[.int .i64 am, .int .u32 y] 24)).alloc (.cells #[.int .i64 0, .int .u32 0] 26)).alloc (.cells #[.int .i64 am, .int .u32 (low (chFN am am x y) k : Nat)] 26)).drewN n)) (fun i _ => 32 - (intOf i).toNat)
  case atStart => exact ⟨0, 0, by omega, rfl, by rw [low_zero]; rfl⟩
  case round =>
    obtain ⟨k, n, hk, rfl, rfl⟩ := hrel
    by_cases hk2 : k < 32
    · rcases r_ways x y k am with hr | hr
      · have HL := Lib.hid (by have := choice_no (am := am) (bm := am) (x := x) (y := y) (k := k) h hk2 (by rw [HM.out]; exact hr); exact this)
        rcases hr with c1 | ⟨c1, c2⟩ | ⟨c1, c2, c3⟩ | ⟨c1, c2, c3, c4⟩
        all_goals
          go_wp2_with (first | (go_at_call 14; refine (since_any _ _ (by omega)).mono ?_; rintro e w5 ⟨rfl, rfl⟩))
          refine wp_region_bits [(0, true), (1, true), (2, true), (3, true), (4, true), (5, true), (6, true), (7, true), (8, true), (9, true), (10, true), (11, true), (12, true), (13, true), (14, true), (15, true), (16, true), (17, true), (18, false), (19, true), (20, true), (21, true), (22, true), (24, true), (25, true), (23, false), (26, true), (27, true)] [] (by kernel_rfl) (by kernel_rfl) (fun c a d v w h => by cases d <;> exact h) ?_
          simp only [bits_, bitOf, List.getElem?_cons_zero, List.getElem?_cons_succ, List.contains_nil]
          repeat (first
            | (refine bits_take (v := ?_) (by rfl) ?_ ?_; rotate_left; (· intro w' hS; go_simp; (repeat (rw [hS.at_]; rotate_left; (· go_simp); go_simp)); (try (go_ints; try go_simp)); with_reducible rfl); (try simp only [Act.put, List.setIfInBounds_toArray, List.set_cons_zero, List.set_cons_succ]))
            | (refine bits_skip (by rfl) ?_; (try simp only [Act.put, List.setIfInBounds_toArray, List.set_cons_zero, List.set_cons_succ]))
            | (refine bits_pass (by rfl) ?_ ?_; (· repeat (first | (with_reducible (first | exact Keep.refl _ | refine Keep.left _ ?_ | refine Keep.drew ?_ | refine Keep.drewN ?_ _ | refine Keep.alloc ?_ _)) | (refine Keep.below ?_ (by assumption)))); (try simp only [Act.put, List.setIfInBounds_toArray, List.set_cons_zero, List.set_cons_succ]))
            | (refine bits_eff (by rfl) (fun K hK => ?_); go_simp; (try go_ints); (first | (go_at_call 14; refine (since_any _ _ (by omega)).mono ?_; rintro e w5 ⟨rfl, rfl⟩) | go_at_K); refine hK _ _ ?_ ?_; (· repeat (first | (with_reducible (first | exact Keep.refl _ | refine Keep.left _ ?_ | refine Keep.drew ?_ | refine Keep.drewN ?_ _ | refine Keep.alloc ?_ _)) | (refine Keep.below ?_ (by assumption)))); clear hK K; (try simp only [Act.put, List.setIfInBounds_toArray, List.set_cons_zero, List.set_cons_succ])))
          refine bits_nil ?_
          go_wp2
          go_roundw
          case rel => exact ⟨k + 1, _, by omega, by go_num, by rw [HL.out]⟩
          case measure => simp [intOf]; omega
      · have HL := Lib.hid (by have := choice_yes (am := am) (bm := am) (x := x) (y := y) (k := k) h hk2 (by rw [HM.out]; exact hr); exact this)
        obtain ⟨c1, c2, c3, c4⟩ := hr
        go_wp2_with (first | (go_at_call 14; refine (since_any _ _ (by omega)).mono ?_; rintro e w5 ⟨rfl, rfl⟩))
        refine wp_region_bits [(0, true), (1, true), (2, true), (3, true), (4, true), (5, true), (6, true), (7, true), (8, true), (9, true), (10, true), (11, true), (12, true), (13, true), (14, true), (15, true), (16, true), (17, true), (18, false), (19, true), (20, true), (21, true), (22, true), (24, true), (25, true), (23, false), (26, true), (27, true)] [] (by kernel_rfl) (by kernel_rfl) (fun c a d v w h => by cases d <;> exact h) ?_
        simp only [bits_, bitOf, List.getElem?_cons_zero, List.getElem?_cons_succ, List.contains_nil]
        repeat (first
          | (refine bits_take (v := ?_) (by rfl) ?_ ?_; rotate_left; (· intro w' hS; go_simp; (repeat (rw [hS.at_]; rotate_left; (· go_simp); go_simp)); (try (go_ints; try go_simp)); with_reducible rfl); (try simp only [Act.put, List.setIfInBounds_toArray, List.set_cons_zero, List.set_cons_succ]))
          | (refine bits_skip (by rfl) ?_; (try simp only [Act.put, List.setIfInBounds_toArray, List.set_cons_zero, List.set_cons_succ]))
          | (refine bits_pass (by rfl) ?_ ?_; (· repeat (first | (with_reducible (first | exact Keep.refl _ | refine Keep.left _ ?_ | refine Keep.drew ?_ | refine Keep.drewN ?_ _ | refine Keep.alloc ?_ _)) | (refine Keep.below ?_ (by assumption)))); (try simp only [Act.put, List.setIfInBounds_toArray, List.set_cons_zero, List.set_cons_succ]))
          | (refine bits_eff (by rfl) (fun K hK => ?_); go_simp; (try go_ints); (first | (go_at_call 14; refine (since_any _ _ (by omega)).mono ?_; rintro e w5 ⟨rfl, rfl⟩) | go_at_K); refine hK _ _ ?_ ?_; (· repeat (first | (with_reducible (first | exact Keep.refl _ | refine Keep.left _ ?_ | refine Keep.drew ?_ | refine Keep.drewN ?_ _ | refine Keep.alloc ?_ _)) | (refine Keep.below ?_ (by assumption)))); clear hK K; (try simp only [Act.put, List.setIfInBounds_toArray, List.set_cons_zero, List.set_cons_succ])))
        refine bits_nil ?_
        go_wp2
        go_roundw
        case rel => exact ⟨k + 1, _, by omega, by go_num, by rw [HL.out]⟩
        case measure => simp [intOf]; omega
    · obtain rfl : k = 32 := by omega
      have HL := Lib.hid (low_all (chFN_lt am am x y hx))
      go_wp2
      rw [HL.out]
      refine bodyPost_ret (v := .tuple #[.agg #[.int .i64 am, .int .u32 (chFN am am x y)], .int .i64 0]) (by simp [results, Try.results10, go_sem]) rfl ?_
      exact rch_close (chV_yes h |>.trans (by omega)) (chF_N _ _ _ _ hx hy) (chE_yes h) (by repeat (with_reducible (first | exact Below.refl _ _ | refine below_drewN ?_ _ | refine Below.alloc ?_ (by simp; try omega) _)))
theorem rchoose_no (am bm : Int) (x y : Nat) (w : World) (h : ¬ (1 ≤ am ∧ 1 ≤ bm ∧ am ≤ 3 ∧ bm ≤ 3)) : Calls Try.prog 10 #[.agg #[.int .i64 am, .int .u32 x], .agg #[.int .i64 bm, .int .u32 y]] w (RChPost am bm x y w) := by
  have HV := Lib.hid (show chV am bm = 0 from if_neg h)
  have HF := Lib.hid (show chF am bm x y = 0 from if_neg h)
  have HE := Lib.hid (show chE am bm = 1 from if_neg h)
  have hc : (am < 1) ∨ (1 ≤ am ∧ 3 < am) ∨ (1 ≤ am ∧ am ≤ 3 ∧ bm < 1) ∨ (1 ≤ am ∧ am ≤ 3 ∧ 1 ≤ bm ∧ 3 < bm) := by omega
  clear h
  rcases hc with h1 | ⟨h1, h2⟩ | ⟨h1, h2, h3⟩ | ⟨h1, h2, h3, h4⟩
  all_goals
    go_enter Try.func10, Try.ntmps10
    go_wp2
    exact bodyPost_ret (v := .tuple #[.agg #[.int .i64 0, .int .u32 0], .int .i64 1]) (by simp [results, Try.results10, go_sem]) rfl (rch_close HV.out HF.out HE.out (by repeat (with_reducible (first | exact Below.refl _ _ | refine below_drewN ?_ _ | refine Below.alloc ?_ (by simp; try omega) _))))
theorem rchoose_any (am bm : Int) (x y : Nat) (w : World) (hx : x < 4294967296) (hy : y < 4294967296) : Calls Try.prog 10 #[.agg #[.int .i64 am, .int .u32 x], .agg #[.int .i64 bm, .int .u32 y]] w (RChPost am bm x y w) := by
  by_cases h : 1 ≤ am ∧ 1 ≤ bm ∧ am ≤ 3 ∧ bm ≤ 3
  · rcases Int.lt_trichotomy am bm with k | k | k
    · exact rchoose_yes am bm x y w hx hy h k
    · subst k
      exact rchoose_eq am x y w hx hy h
    · exact rchoose_gt am bm x y w hx hy h k
  · exact rchoose_no am bm x y w h
end Go.Proofs.Ytblhbhhgpfcfbaa
