/- The guard takes a number. -/
import Derived.Test.YtnjneljlphilnaaBase
namespace Go.Proofs.Ytnjneljlphilnaa
open Go.RowKit
attribute [local go_sem] alloc_drewN setCell_drewN


set_option maxHeartbeats 400000 in
theorem take_no (g : Nat) (s : St) (n : Nat) (w : World) (hg : G w g s) (hk : s.ok) (hc : chk s n = 1 ∨ chk s n = 10) :
    Calls Try.prog 10 #[.pointer (some ⟨g, 0, none⟩), .int .u64 n] w (TkPost g (chk s n) (tk s n) w) := by
  have HT := Lib.hid (show tk s n = s from if_pos (by omega))
  have CK := Lib.hid (check_any g s n w hg hk)
  have HG := Lib.hid hg
  clear hg
  rcases hc with hc | hc
  all_goals
    have HC := Lib.hid hc
    rw [hc] at CK
    clear hc
    go_enter Try.func10, Try.ntmps10
    go_wp2_with (go_at_call 11; refine CK.out.mono ?_; rintro e w' ⟨rfl, m, rfl⟩)
    go_ret
    refine ⟨by rw [HC.out]; rfl, by rw [HT.out]; exact HG.out, turn_draws (turn_refl _ _) _⟩
set_option maxHeartbeats 400000 in
theorem take_first (g : Nat) (top seen : Nat) (n : Nat) (w : World) (hg : G w g ⟨false, top, seen⟩) (hk : St.ok ⟨false, top, seen⟩) (hn : n ≤ 4611686018427387904) :
    Calls Try.prog 10 #[.pointer (some ⟨g, 0, none⟩), .int .u64 n] w (TkPost g 0 ⟨true, n, 1⟩ w) := by
  have CK := Lib.hid (check_any g _ n w hg hk)
  have hc : chk ⟨false, top, seen⟩ n = 0 := by unfold chk; rw [if_neg (by omega), if_pos (.inl rfl)]
  rw [hc] at CK
  clear hc
  obtain ⟨c0, c1, c2⟩ := hg.cell
  have f0 := Own.frozen hg 0
  have f1 := Own.frozen hg 1
  have f2 := Own.frozen hg 2
  have HG := Lib.hid hg
  clear hg
  simp only at c0 c1 c2
  go_enter Try.func10, Try.ntmps10
  go_wp2_with (go_at_call 11; refine CK.out.mono ?_; rintro e w' ⟨rfl, m, rfl⟩)
  go_ret
  exact ⟨rfl, (((Own.store HG.out 0 _).store 1 _).store 2 _).draws m, turn_draws (turn_store (turn_store (turn_store (turn_refl _ _) 0 _) 1 _) 2 _) _⟩
theorem g_eq {w : World} {g : Nat} {cs : Array Value} (h : Own w g 49 cs) {a : Bool} {t x : Int} (hc : cs = #[.bool a, .int .u64 t, .int .u64 x]) {T X : Nat} (ht : t = T) (hx : x = X) : G w g ⟨a, T, X⟩ := by
  subst hc ht hx
  exact h
theorem wrap_pow (j : Nat) (hj : j < 64) : IntKind.u64.wrap ((2 : Int) ^ j) = ((2 ^ j : Nat) : Int) := by
  rw [IntKind.wrap_u64, show (2 : Int) ^ j = ((2 ^ j : Nat) : Int) from by rw [Int.natCast_pow]; rfl]
  have := Nat.pow_lt_pow_right (a := 2) (n := 64) (by omega) hj
  generalize 2 ^ j = q at *
  omega
theorem wrap_shl (x d : Nat) : IntKind.u64.wrap ((x : Int) * 2 ^ d) = ((x * 2 ^ d % 18446744073709551616 : Nat) : Int) := by
  rw [IntKind.wrap_u64, show (2 : Int) ^ d = ((2 ^ d : Nat) : Int) from by rw [Int.natCast_pow]; rfl, ← Int.natCast_mul]
  rfl
set_option maxHeartbeats 400000 in
theorem take_up (g : Nat) (top seen d : Nat) (w : World) (hg : G w g ⟨true, top, seen⟩) (hk : St.ok ⟨true, top, seen⟩) (hd : 0 < d) (hn : top + d ≤ 4611686018427387904) :
    Calls Try.prog 10 #[.pointer (some ⟨g, 0, none⟩), .int .u64 (top + d : Nat)] w (TkPost g 0 ⟨true, top + d, (if 64 ≤ d then 0 else seen * 2 ^ d % 18446744073709551616) ||| 1⟩ w) := by
  have CK := Lib.hid (check_any g _ (top + d) w hg hk)
  have hc : chk ⟨true, top, seen⟩ (top + d) = 0 := by unfold chk; rw [if_neg (by omega), if_pos (.inr (by simp; omega))]
  rw [hc] at CK
  clear hc
  obtain ⟨c0, c1, c2⟩ := hg.cell
  have f0 := Own.frozen hg 0
  have f1 := Own.frozen hg 1
  have f2 := Own.frozen hg 2
  have HG := Lib.hid hg
  clear hg
  obtain ⟨hk1, hk2⟩ := hk
  simp only at c0 c1 c2 hk1 hk2
  have e1 : (top : Int) + (d : Int) - (top : Int) = (d : Int) := by omega
  have e2 : (top : Int) + (d : Int) - ((top : Int) + (d : Int)) = 0 := by omega
  by_cases h6 : 64 ≤ d
  · have h6' : (64 : Int) ≤ (d : Int) := by omega
    go_enter Try.func10, Try.ntmps10
    go_wp2_with (go_at_call 11; refine CK.out.mono ?_; rintro e w' ⟨rfl, m, rfl⟩)
    refine wp_region_bits [(0, true), (1, true), (2, true), (3, true), (4, true), (5, true), (6, true), (7, true), (8, true), (9, true), (10, true), (11, true), (12, true), (13, true), (14, false)] [14] (by kernel_rfl) (by kernel_rfl) (fun c a d v w h => by cases d <;> exact h) ?_
    simp only [bits_, bitOf, List.getElem?_cons_zero, List.getElem?_cons_succ, List.contains_nil, List.contains_cons, Nat.reduceBEq, Bool.or_false]
    repeat (first
      | (refine bits_take (v := ?_) (by rfl) ?_ ?_; rotate_left; (· intro w' hS; go_simp; (repeat (rw [hS.at_]; rotate_left; (· go_simp); go_simp)); (try (go_ints; try go_simp)); with_reducible rfl); (try simp only [Act.put, List.setIfInBounds_toArray, List.set_cons_zero, List.set_cons_succ]))
      | (refine bits_skip (by rfl) ?_; (try simp only [Act.put, List.setIfInBounds_toArray, List.set_cons_zero, List.set_cons_succ]))
      | (refine bits_pass_tail (by rfl) ?_; (try simp only [Act.put, List.setIfInBounds_toArray, List.set_cons_zero, List.set_cons_succ]))
      | (refine bits_tail (by rfl) (fun K hK => ?_); go_simp; (try go_ints); (first | go_at_K); refine hK _ _ ?_; clear hK K; (try simp only [Act.put, List.setIfInBounds_toArray, List.set_cons_zero, List.set_cons_succ]))
      | (refine bits_pass (by rfl) ?_ ?_; (· repeat (first | (with_reducible (first | exact Keep.refl _ | refine Keep.left _ ?_ | refine Keep.drew ?_ | refine Keep.drewN ?_ _ | refine Keep.alloc ?_ _)) | (refine Keep.below ?_ (by assumption)))); (try simp only [Act.put, List.setIfInBounds_toArray, List.set_cons_zero, List.set_cons_succ]))
      | (refine bits_eff (by rfl) (fun K hK => ?_); go_simp; (try go_ints); (first | go_at_K); refine hK _ _ ?_ ?_; (· repeat (first | (with_reducible (first | exact Keep.refl _ | refine Keep.left _ ?_ | refine Keep.drew ?_ | refine Keep.drewN ?_ _ | refine Keep.alloc ?_ _)) | (refine Keep.below ?_ (by assumption)))); clear hK K; (try simp only [Act.put, List.setIfInBounds_toArray, List.set_cons_zero, List.set_cons_succ])))
    refine bits_nil ?_
    go_wp2
    go_ret
    refine ⟨rfl, g_eq ((((Own.store HG.out 2 _).store 1 _).store 2 _).draws _) rfl (by omega) (by decide), turn_draws (turn_store (turn_store (turn_store (turn_refl _ _) 2 _) 1 _) 2 _) _⟩
  · have h6' : (d : Int) < 64 := by omega
    obtain ⟨q, hq⟩ : ∃ q : Nat, q = seen * 2 ^ d % 18446744073709551616 := ⟨_, rfl⟩
    have hw : IntKind.u64.wrap ((seen : Int) * 2 ^ d) = (q : Int) := by rw [hq, wrap_shl]
    have HQ := Lib.hid hq
    clear hq
    go_enter Try.func10, Try.ntmps10
    go_wp2_with (go_at_call 11; refine CK.out.mono ?_; rintro e w' ⟨rfl, m, rfl⟩)
    refine wp_region_bits [(0, true), (1, true), (2, true), (3, true), (4, true), (5, true), (6, true), (7, true), (8, true), (9, true), (10, true), (11, true), (12, true), (13, false)] [13] (by kernel_rfl) (by kernel_rfl) (fun c a d v w h => by cases d <;> exact h) ?_
    simp only [bits_, bitOf, List.getElem?_cons_zero, List.getElem?_cons_succ, List.contains_nil, List.contains_cons, Nat.reduceBEq, Bool.or_false]
    repeat (first
      | (refine bits_take (v := ?_) (by rfl) ?_ ?_; rotate_left; (· intro w' hS; go_simp; (repeat (rw [hS.at_]; rotate_left; (· go_simp); go_simp)); (try (go_ints; try go_simp)); with_reducible rfl); (try simp only [Act.put, List.setIfInBounds_toArray, List.set_cons_zero, List.set_cons_succ]))
      | (refine bits_skip (by rfl) ?_; (try simp only [Act.put, List.setIfInBounds_toArray, List.set_cons_zero, List.set_cons_succ]))
      | (refine bits_pass_tail (by rfl) ?_; (try simp only [Act.put, List.setIfInBounds_toArray, List.set_cons_zero, List.set_cons_succ]))
      | (refine bits_tail (by rfl) (fun K hK => ?_); go_simp; (try go_ints); (first | go_at_K); refine hK _ _ ?_; clear hK K; (try simp only [Act.put, List.setIfInBounds_toArray, List.set_cons_zero, List.set_cons_succ]))
      | (refine bits_pass (by rfl) ?_ ?_; (· repeat (first | (with_reducible (first | exact Keep.refl _ | refine Keep.left _ ?_ | refine Keep.drew ?_ | refine Keep.drewN ?_ _ | refine Keep.alloc ?_ _)) | (refine Keep.below ?_ (by assumption)))); (try simp only [Act.put, List.setIfInBounds_toArray, List.set_cons_zero, List.set_cons_succ]))
      | (refine bits_eff (by rfl) (fun K hK => ?_); go_simp; (try go_ints); (first | go_at_K); refine hK _ _ ?_ ?_; (· repeat (first | (with_reducible (first | exact Keep.refl _ | refine Keep.left _ ?_ | refine Keep.drew ?_ | refine Keep.drewN ?_ _ | refine Keep.alloc ?_ _)) | (refine Keep.below ?_ (by assumption)))); clear hK K; (try simp only [Act.put, List.setIfInBounds_toArray, List.set_cons_zero, List.set_cons_succ])))
    refine bits_nil ?_
    go_wp2
    refine wp_region_bits [(0, true), (1, true), (2, true), (3, true), (4, true), (5, true), (6, true), (7, true), (8, true), (9, true), (10, true), (11, true), (12, true), (13, true), (14, false)] [14] (by kernel_rfl) (by kernel_rfl) (fun c a d v w h => by cases d <;> exact h) ?_
    simp only [bits_, bitOf, List.getElem?_cons_zero, List.getElem?_cons_succ, List.contains_nil, List.contains_cons, Nat.reduceBEq, Bool.or_false]
    repeat (first
      | (refine bits_take (v := ?_) (by rfl) ?_ ?_; rotate_left; (· intro w' hS; go_simp; (repeat (rw [hS.at_]; rotate_left; (· go_simp); go_simp)); (try (go_ints; try go_simp)); with_reducible rfl); (try simp only [Act.put, List.setIfInBounds_toArray, List.set_cons_zero, List.set_cons_succ]))
      | (refine bits_skip (by rfl) ?_; (try simp only [Act.put, List.setIfInBounds_toArray, List.set_cons_zero, List.set_cons_succ]))
      | (refine bits_pass_tail (by rfl) ?_; (try simp only [Act.put, List.setIfInBounds_toArray, List.set_cons_zero, List.set_cons_succ]))
      | (refine bits_tail (by rfl) (fun K hK => ?_); go_simp; (try go_ints); (first | go_at_K); refine hK _ _ ?_; clear hK K; (try simp only [Act.put, List.setIfInBounds_toArray, List.set_cons_zero, List.set_cons_succ]))
      | (refine bits_pass (by rfl) ?_ ?_; (· repeat (first | (with_reducible (first | exact Keep.refl _ | refine Keep.left _ ?_ | refine Keep.drew ?_ | refine Keep.drewN ?_ _ | refine Keep.alloc ?_ _)) | (refine Keep.below ?_ (by assumption)))); (try simp only [Act.put, List.setIfInBounds_toArray, List.set_cons_zero, List.set_cons_succ]))
      | (refine bits_eff (by rfl) (fun K hK => ?_); go_simp; (try go_ints); (first | go_at_K); refine hK _ _ ?_ ?_; (· repeat (first | (with_reducible (first | exact Keep.refl _ | refine Keep.left _ ?_ | refine Keep.drew ?_ | refine Keep.drewN ?_ _ | refine Keep.alloc ?_ _)) | (refine Keep.below ?_ (by assumption)))); clear hK K; (try simp only [Act.put, List.setIfInBounds_toArray, List.set_cons_zero, List.set_cons_succ])))
    refine bits_nil ?_
    go_wp2
    go_ret
    refine ⟨rfl, g_eq ((((Own.store HG.out 2 _).store 1 _).store 2 _).draws _) rfl (by omega) (by rw [← HQ.out]; exact u64_or_nat q 1 (by rw [HQ.out]; exact Nat.mod_lt _ (by omega)) (by omega)), turn_draws (turn_store (turn_store (turn_store (turn_refl _ _) 2 _) 1 _) 2 _) _⟩
set_option maxHeartbeats 400000 in
theorem take_in (g : Nat) (n seen j : Nat) (w : World) (hg : G w g ⟨true, n + j, seen⟩) (hk : St.ok ⟨true, n + j, seen⟩) (hj : j < 64) (hb : seen.testBit j = false) :
    Calls Try.prog 10 #[.pointer (some ⟨g, 0, none⟩), .int .u64 n] w (TkPost g 0 ⟨true, n + j, seen ||| 2 ^ j⟩ w) := by
  have CK := Lib.hid (check_any g _ n w hg hk)
  obtain ⟨hk1, hk2⟩ := hk
  simp only at hk1 hk2
  have hc : chk ⟨true, n + j, seen⟩ n = 0 := by unfold chk; simp only [Nat.add_sub_cancel_left]; rw [if_neg (by omega), if_neg (by simp), if_neg (by rw [hb]; simp; omega)]
  rw [hc] at CK
  clear hc hb
  obtain ⟨c0, c1, c2⟩ := hg.cell
  have f0 := Own.frozen hg 0
  have f1 := Own.frozen hg 1
  have f2 := Own.frozen hg 2
  have HG := Lib.hid hg
  clear hg
  simp only at c0 c1 c2
  have e1 : (n : Int) + (j : Int) - (n : Int) = (j : Int) := by omega
  go_enter Try.func10, Try.ntmps10
  go_wp2_with (go_at_call 11; refine CK.out.mono ?_; rintro e w' ⟨rfl, m, rfl⟩)
  refine wp_region_bits [(0, true), (1, true), (2, true), (3, true), (4, true), (5, true), (6, true), (7, true), (8, true), (9, true), (10, true), (11, true), (12, true), (13, true), (14, false)] [14] (by kernel_rfl) (by kernel_rfl) (fun c a d v w h => by cases d <;> exact h) ?_
  simp only [bits_, bitOf, List.getElem?_cons_zero, List.getElem?_cons_succ, List.contains_nil, List.contains_cons, Nat.reduceBEq, Bool.or_false]
  repeat (first
    | (refine bits_take (v := ?_) (by rfl) ?_ ?_; rotate_left; (· intro w' hS; go_simp; (repeat (rw [hS.at_]; rotate_left; (· go_simp); go_simp)); (try (go_ints; try go_simp)); with_reducible rfl); (try simp only [Act.put, List.setIfInBounds_toArray, List.set_cons_zero, List.set_cons_succ]))
    | (refine bits_skip (by rfl) ?_; (try simp only [Act.put, List.setIfInBounds_toArray, List.set_cons_zero, List.set_cons_succ]))
    | (refine bits_pass_tail (by rfl) ?_; (try simp only [Act.put, List.setIfInBounds_toArray, List.set_cons_zero, List.set_cons_succ]))
    | (refine bits_tail (by rfl) (fun K hK => ?_); go_simp; (try go_ints); (first | go_at_K); refine hK _ _ ?_; clear hK K; (try simp only [Act.put, List.setIfInBounds_toArray, List.set_cons_zero, List.set_cons_succ]))
    | (refine bits_pass (by rfl) ?_ ?_; (· repeat (first | (with_reducible (first | exact Keep.refl _ | refine Keep.left _ ?_ | refine Keep.drew ?_ | refine Keep.drewN ?_ _ | refine Keep.alloc ?_ _)) | (refine Keep.below ?_ (by assumption)))); (try simp only [Act.put, List.setIfInBounds_toArray, List.set_cons_zero, List.set_cons_succ]))
    | (refine bits_eff (by rfl) (fun K hK => ?_); go_simp; (try go_ints); (first | go_at_K); refine hK _ _ ?_ ?_; (· repeat (first | (with_reducible (first | exact Keep.refl _ | refine Keep.left _ ?_ | refine Keep.drew ?_ | refine Keep.drewN ?_ _ | refine Keep.alloc ?_ _)) | (refine Keep.below ?_ (by assumption)))); clear hK K; (try simp only [Act.put, List.setIfInBounds_toArray, List.set_cons_zero, List.set_cons_succ])))
  refine bits_nil ?_
  go_wp2
  go_ret
  refine ⟨rfl, g_eq ((Own.store HG.out 2 _).draws _) rfl rfl (by rw [wrap_pow j hj]; exact u64_or_nat seen (2 ^ j) hk2 (Nat.pow_lt_pow_right (n := 64) (by omega) hj)), turn_draws (turn_store (turn_refl _ _) 2 _) _⟩

theorem take_any (g : Nat) (s : St) (n : Nat) (w : World) (hg : G w g s) (hk : s.ok) : Calls Try.prog 10 #[.pointer (some ⟨g, 0, none⟩), .int .u64 n] w (TkPost g (chk s n) (tk s n) w) := by
  obtain ⟨any, top, seen⟩ := s
  by_cases h1 : 4611686018427387904 < n
  · exact take_no g _ n w hg hk (.inl (if_pos h1))
  · cases any with
    | false =>
      have hc : chk ⟨false, top, seen⟩ n = 0 := by unfold chk; rw [if_neg h1, if_pos (.inl rfl)]
      have ht : tk ⟨false, top, seen⟩ n = ⟨true, n, 1⟩ := by unfold tk; rw [if_neg (by omega), if_pos rfl]
      rw [hc, ht]
      exact take_first g top seen n w hg hk (by omega)
    | true =>
      by_cases h2 : top < n
      · obtain ⟨d, rfl⟩ : ∃ d, n = top + d := ⟨n - top, by omega⟩
        have hc : chk ⟨true, top, seen⟩ (top + d) = 0 := by unfold chk; rw [if_neg h1, if_pos (.inr h2)]
        have ht : tk ⟨true, top, seen⟩ (top + d) = ⟨true, top + d, (if 64 ≤ d then 0 else seen * 2 ^ d % 18446744073709551616) ||| 1⟩ := by
          unfold tk
          rw [if_neg (by omega), if_neg (by simp), if_pos h2]
          simp only [Nat.add_sub_cancel_left]
        rw [hc, ht]
        exact take_up g top seen d w hg hk (by omega) (by omega)
      · obtain ⟨j, rfl⟩ : ∃ j, top = n + j := ⟨top - n, by omega⟩
        have hx : chk ⟨true, n + j, seen⟩ n = if 64 ≤ j ∨ seen.testBit j = true then 10 else 0 := by
          unfold chk
          rw [if_neg h1, if_neg (by simp)]
          simp only [Nat.add_sub_cancel_left]
        by_cases h3 : 64 ≤ j ∨ seen.testBit j = true
        · exact take_no g _ n w hg hk (.inr (hx.trans (if_pos h3)))
        · have hc := hx.trans (if_neg h3)
          have ht : tk ⟨true, n + j, seen⟩ n = ⟨true, n + j, seen ||| 2 ^ j⟩ := by
            unfold tk
            rw [if_neg (by omega), if_neg (by simp), if_neg h2]
            simp only [Nat.add_sub_cancel_left]
          rw [hc, ht]
          exact take_in g n seen j w hg hk (by omega) (by cases hb : seen.testBit j; rfl; exact absurd (.inr hb) h3)
end Go.Proofs.Ytnjneljlphilnaa
