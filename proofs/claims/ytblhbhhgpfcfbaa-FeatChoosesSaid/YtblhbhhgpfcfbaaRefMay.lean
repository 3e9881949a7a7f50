/- What the document's May computes: the same as May. -/
import Derived.Test.YtblhbhhgpfcfbaaRef
import Derived.Test.YtblhbhhgpfcfbaaMay
namespace Go.Proofs.Ytblhbhhgpfcfbaa
open Go.RowKit
attribute [local go_sem] alloc_drewN setCell_drewN


/-- The bits below k are what the version can have. -/
def upTo (f : Nat) (v : Int) (k : Nat) : Prop := ∀ j, j < k → f.testBit j = true → (ceilN v).testBit j = true
theorem upTo_zero (f : Nat) (v : Int) : upTo f v 0 := fun j h => absurd h (by omega)
theorem upTo_succ {f : Nat} {v : Int} {k : Nat} (h : upTo f v k) (hk : f.testBit k = true → (ceilN v).testBit k = true) : upTo f v (k + 1) := fun j hj hb => by
  rcases Nat.lt_or_ge j k with h' | h'
  · exact h j h' hb
  · obtain rfl : j = k := by omega
    exact hk hb
theorem upTo_all {f : Nat} {v : Int} (hf : f < 4294967296) (h : upTo f v 32) : Sub f (ceilN v) := fun j hb => by
  rcases Nat.lt_or_ge j 32 with h' | h'
  · exact h j h' hb
  · rw [Nat.testBit_lt_two_pow (Nat.lt_of_lt_of_le hf (Nat.pow_le_pow_right (n := 2) (by omega) h'))] at hb
    cases hb
theorem mayB_yes {f : Nat} {v : Int} (h1 : 1 ≤ v) (h3 : v ≤ 3) (hf : f < 4294967296) (h : upTo f v 32) : mayB v f = true := by
  rw [mayB_mid h1 h3, ceil_N]
  exact decide_eq_true ((andNot_iff hf (ceilN_lt _)).2 (upTo_all hf h))
theorem mayB_no {f k : Nat} {v : Int} (h1 : 1 ≤ v) (h3 : v ≤ 3) (hf : f < 4294967296) (hb : f.testBit k = true) (hn : (ceilN v).testBit k = false) : mayB v f = false := by
  rw [mayB_mid h1 h3, ceil_N]
  refine decide_eq_false fun h => ?_
  have := (andNot_iff hf (ceilN_lt _)).1 h k hb
  rw [hn] at this
  cases this

theorem sinceN_nn (k : Nat) : 0 ≤ sinceN k := by unfold sinceN; split <;> (try split) <;> (try split) <;> omega
set_option maxHeartbeats 2000000 in
theorem rmay_any (v : Int) (f : Nat) (w : World) (hf : f < 4294967296) : Calls Try.prog 12 #[.agg #[.int .i64 v, .int .u32 f]] w (MayPost v f w) := by
  by_cases h1 : v < 1
  · have HV := Lib.hid (mayB_lo (f := f) h1)
    go_enter Try.func12, Try.ntmps12
    go_wp2
    go_ret
    exact may_close HV.out 0
  · by_cases h3 : 3 < v
    · have HV := Lib.hid (mayB_hi (f := f) h3)
      have h1' : 1 ≤ v := by omega
      go_enter Try.func12, Try.ntmps12
      go_wp2
      go_ret
      exact may_close HV.out 0
    · have h1' : 1 ≤ v := by omega
      have h3' : v ≤ 3 := by omega
      go_enter Try.func12, Try.ntmps12
      go_wp2
      go_loopw [3] (fun i wr => ∃ k n : Nat, k ≤ 32 ∧ i = .int .i64 k ∧ upTo f v k ∧ wr = ((w.alloc (.cells #[.int .i64 v, .int .u32 f] 26)).drewN n)) (fun i _ => 32 - (intOf i).toNat)
      case atStart => exact ⟨0, 0, by omega, rfl, upTo_zero f v, rfl⟩
      case round =>
        obtain ⟨k, n, hk, rfl, hu, rfl⟩ := hrel
        have HU := Lib.hid hu
        clear hu
        by_cases hk2 : k < 32
        · have HB := Lib.hid (ceil_bit v k h1' h3' hk2)
          have HT := Lib.hid (bit_of f k)
          have hc : ((((f : Int) / 2 ^ k).tmod 2) == 1) = false ∨ (((((f : Int) / 2 ^ k).tmod 2) == 1) = true ∧ (sinceN k == 0) = false ∧ decide (v < sinceN k) = false) ∨
              (((((f : Int) / 2 ^ k).tmod 2) == 1) = true ∧ (sinceN k == 0) = true) ∨ (((((f : Int) / 2 ^ k).tmod 2) == 1) = true ∧ (sinceN k == 0) = false ∧ decide (v < sinceN k) = true) := by
            cases ((((f : Int) / 2 ^ k).tmod 2) == 1) <;> cases (sinceN k == 0) <;> cases decide (v < sinceN k) <;> simp
          rcases hc with c1 | ⟨c1, c2, c3⟩ | ⟨c1, c2⟩ | ⟨c1, c2, c3⟩
          · have HS := Lib.hid (upTo_succ HU.out (fun hb => by rw [← HT.out, c1] at hb; cases hb))
            go_wp2_with (first | (go_at_call 14; refine (since_any _ _ (by omega)).mono ?_; rintro e w5 ⟨rfl, rfl⟩))
            refine wp_region_bits [(0, true), (1, true), (2, true), (3, true), (4, true), (5, true), (6, true), (7, true), (8, true), (9, false), (10, true), (11, true), (12, true), (14, true), (15, true), (13, false), (16, true), (17, true), (18, true)] [] (by kernel_rfl) (by kernel_rfl) (fun c a d v w h => by cases d <;> exact h) ?_
            simp only [bits_, bitOf, List.getElem?_cons_zero, List.getElem?_cons_succ, List.contains_nil]
            repeat (first
              | (refine bits_take (v := ?_) (by rfl) ?_ ?_; rotate_left; (· intro w' hS; go_simp; (repeat (rw [hS.at_]; rotate_left; (· go_simp); go_simp)); (try (go_ints; try go_simp)); with_reducible rfl); (try simp only [Act.put, List.setIfInBounds_toArray, List.set_cons_zero, List.set_cons_succ]))
              | (refine bits_skip (by rfl) ?_; (try simp only [Act.put, List.setIfInBounds_toArray, List.set_cons_zero, List.set_cons_succ]))
              | (refine bits_pass (by rfl) ?_ ?_; (· repeat (first | (with_reducible (first | exact Keep.refl _ | refine Keep.left _ ?_ | refine Keep.drew ?_ | refine Keep.drewN ?_ _ | refine Keep.alloc ?_ _)) | (refine Keep.below ?_ (by assumption)))); (try simp only [Act.put, List.setIfInBounds_toArray, List.set_cons_zero, List.set_cons_succ]))
              | (refine bits_eff (by rfl) (fun K hK => ?_); go_simp; (try go_ints); (first | (go_at_call 14; refine (since_any _ _ (by omega)).mono ?_; rintro e w5 ⟨rfl, rfl⟩) | go_at_K); refine hK _ _ ?_ ?_; (· repeat (first | (with_reducible (first | exact Keep.refl _ | refine Keep.left _ ?_ | refine Keep.drew ?_ | refine Keep.drewN ?_ _ | refine Keep.alloc ?_ _)) | (refine Keep.below ?_ (by assumption)))); clear hK K; (try simp only [Act.put, List.setIfInBounds_toArray, List.set_cons_zero, List.set_cons_succ])))
            refine bits_nil ?_
            go_wp2
            go_roundw
            case rel => exact ⟨k + 1, _, by omega, by go_num, HS.out, rfl⟩
            case measure => simp [intOf]; omega
          · have HS := Lib.hid (upTo_succ HU.out (fun _ => by
              rw [HB.out]
              have d1 : sinceN k ≠ 0 := by simpa using c2
              have d2 : ¬ v < sinceN k := by simpa using c3
              have d0 := sinceN_nn k
              rw [decide_eq_true (show 0 < sinceN k by omega), decide_eq_true (show sinceN k ≤ v by omega)]; rfl))
            go_wp2_with (first | (go_at_call 14; refine (since_any _ _ (by omega)).mono ?_; rintro e w5 ⟨rfl, rfl⟩))
            refine wp_region_bits [(0, true), (1, true), (2, true), (3, true), (4, true), (5, true), (6, true), (7, true), (8, true), (9, false), (10, true), (11, true), (12, true), (14, true), (15, true), (13, false), (16, true), (17, true), (18, true)] [] (by kernel_rfl) (by kernel_rfl) (fun c a d v w h => by cases d <;> exact h) ?_
            simp only [bits_, bitOf, List.getElem?_cons_zero, List.getElem?_cons_succ, List.contains_nil]
            repeat (first
              | (refine bits_take (v := ?_) (by rfl) ?_ ?_; rotate_left; (· intro w' hS; go_simp; (repeat (rw [hS.at_]; rotate_left; (· go_simp); go_simp)); (try (go_ints; try go_simp)); with_reducible rfl); (try simp only [Act.put, List.setIfInBounds_toArray, List.set_cons_zero, List.set_cons_succ]))
              | (refine bits_skip (by rfl) ?_; (try simp only [Act.put, List.setIfInBounds_toArray, List.set_cons_zero, List.set_cons_succ]))
              | (refine bits_pass (by rfl) ?_ ?_; (· repeat (first | (with_reducible (first | exact Keep.refl _ | refine Keep.left _ ?_ | refine Keep.drew ?_ | refine Keep.drewN ?_ _ | refine Keep.alloc ?_ _)) | (refine Keep.below ?_ (by assumption)))); (try simp only [Act.put, List.setIfInBounds_toArray, List.set_cons_zero, List.set_cons_succ]))
              | (refine bits_eff (by rfl) (fun K hK => ?_); go_simp; (try go_ints); (first | (go_at_call 14; refine (since_any _ _ (by omega)).mono ?_; rintro e w5 ⟨rfl, rfl⟩) | go_at_K); refine hK _ _ ?_ ?_; (· repeat (first | (with_reducible (first | exact Keep.refl _ | refine Keep.left _ ?_ | refine Keep.drew ?_ | refine Keep.drewN ?_ _ | refine Keep.alloc ?_ _)) | (refine Keep.below ?_ (by assumption)))); clear hK K; (try simp only [Act.put, List.setIfInBounds_toArray, List.set_cons_zero, List.set_cons_succ])))
            refine bits_nil ?_
            go_wp2
            go_roundw
            case rel => exact ⟨k + 1, _, by omega, by go_num, HS.out, rfl⟩
            case measure => simp [intOf]; omega
          · have HV := Lib.hid (mayB_no (k := k) h1' h3' hf (by rw [← HT.out, c1]) (by
              rw [HB.out]
              have d1 : sinceN k = 0 := by simpa using c2
              rw [d1]; rfl))
            go_wp2_with (first | (go_at_call 14; refine (since_any _ _ (by omega)).mono ?_; rintro e w5 ⟨rfl, rfl⟩))
            refine wp_region_bits [(0, true), (1, true), (2, true), (3, true), (4, true), (5, true), (6, true), (7, true), (8, true), (9, false), (10, true), (11, true), (12, true), (14, true), (15, true), (13, false), (16, true), (17, true), (18, true)] [] (by kernel_rfl) (by kernel_rfl) (fun c a d v w h => by cases d <;> exact h) ?_
            simp only [bits_, bitOf, List.getElem?_cons_zero, List.getElem?_cons_succ, List.contains_nil]
            repeat (first
              | (refine bits_take (v := ?_) (by rfl) ?_ ?_; rotate_left; (· intro w' hS; go_simp; (repeat (rw [hS.at_]; rotate_left; (· go_simp); go_simp)); (try (go_ints; try go_simp)); with_reducible rfl); (try simp only [Act.put, List.setIfInBounds_toArray, List.set_cons_zero, List.set_cons_succ]))
              | (refine bits_skip (by rfl) ?_; (try simp only [Act.put, List.setIfInBounds_toArray, List.set_cons_zero, List.set_cons_succ]))
              | (refine bits_pass (by rfl) ?_ ?_; (· repeat (first | (with_reducible (first | exact Keep.refl _ | refine Keep.left _ ?_ | refine Keep.drew ?_ | refine Keep.drewN ?_ _ | refine Keep.alloc ?_ _)) | (refine Keep.below ?_ (by assumption)))); (try simp only [Act.put, List.setIfInBounds_toArray, List.set_cons_zero, List.set_cons_succ]))
              | (refine bits_eff (by rfl) (fun K hK => ?_); go_simp; (try go_ints); (first | (go_at_call 14; refine (since_any _ _ (by omega)).mono ?_; rintro e w5 ⟨rfl, rfl⟩) | go_at_K); refine hK _ _ ?_ ?_; (· repeat (first | (with_reducible (first | exact Keep.refl _ | refine Keep.left _ ?_ | refine Keep.drew ?_ | refine Keep.drewN ?_ _ | refine Keep.alloc ?_ _)) | (refine Keep.below ?_ (by assumption)))); clear hK K; (try simp only [Act.put, List.setIfInBounds_toArray, List.set_cons_zero, List.set_cons_succ])))
            refine bits_nil ?_
            go_wp2
            go_ret
            exact may_close HV.out _
          · have HV := Lib.hid (mayB_no (k := k) h1' h3' hf (by rw [← HT.out, c1]) (by
              rw [HB.out]
              have d2 : v < sinceN k := by simpa using c3
              rw [decide_eq_false (show ¬ sinceN k ≤ v by omega)]; simp))
            go_wp2_with (first | (go_at_call 14; refine (since_any _ _ (by omega)).mono ?_; rintro e w5 ⟨rfl, rfl⟩))
            refine wp_region_bits [(0, true), (1, true), (2, true), (3, true), (4, true), (5, true), (6, true), (7, true), (8, true), (9, false), (10, true), (11, true), (12, true), (14, true), (15, true), (13, false), (16, true), (17, true), (18, true)] [] (by kernel_rfl) (by kernel_rfl) (fun c a d v w h => by cases d <;> exact h) ?_
            simp only [bits_, bitOf, List.getElem?_cons_zero, List.getElem?_cons_succ, List.contains_nil]
            repeat (first
              | (refine bits_take (v := ?_) (by rfl) ?_ ?_; rotate_left; (· intro w' hS; go_simp; (repeat (rw [hS.at_]; rotate_left; (· go_simp); go_simp)); (try (go_ints; try go_simp)); with_reducible rfl); (try simp only [Act.put, List.setIfInBounds_toArray, List.set_cons_zero, List.set_cons_succ]))
              | (refine bits_skip (by rfl) ?_; (try simp only [Act.put, List.setIfInBounds_toArray, List.set_cons_zero, List.set_cons_succ]))
              | (refine bits_pass (by rfl) ?_ ?_; (· repeat (first | (with_reducible (first | exact Keep.refl _ | refine Keep.left _ ?_ | refine Keep.drew ?_ | refine Keep.drewN ?_ _ | refine Keep.alloc ?_ _)) | (refine Keep.below ?_ (by assumption)))); (try simp only [Act.put, List.setIfInBounds_toArray, List.set_cons_zero, List.set_cons_succ]))
              | (refine bits_eff (by rfl) (fun K hK => ?_); go_simp; (try go_ints); (first | (go_at_call 14; refine (since_any _ _ (by omega)).mono ?_; rintro e w5 ⟨rfl, rfl⟩) | go_at_K); refine hK _ _ ?_ ?_; (· repeat (first | (with_reducible (first | exact Keep.refl _ | refine Keep.left _ ?_ | refine Keep.drew ?_ | refine Keep.drewN ?_ _ | refine Keep.alloc ?_ _)) | (refine Keep.below ?_ (by assumption)))); clear hK K; (try simp only [Act.put, List.setIfInBounds_toArray, List.set_cons_zero, List.set_cons_succ])))
            refine bits_nil ?_
            go_wp2
            go_ret
            exact may_close HV.out _
        · obtain rfl : k = 32 := by omega
          have HV := Lib.hid (mayB_yes h1' h3' hf HU.out)
          go_wp2
          go_ret
          exact may_close HV.out _
end Go.Proofs.Ytblhbhhgpfcfbaa
