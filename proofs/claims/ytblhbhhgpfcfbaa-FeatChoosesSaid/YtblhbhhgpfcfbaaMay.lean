/- What feat.May computes. -/
import Derived.Test.YtblhbhhgpfcfbaaPlain
namespace Go.Proofs.Ytblhbhhgpfcfbaa
open Go.RowKit
attribute [local go_sem] alloc_drewN setCell_drewN


def mayB (v f : Int) : Bool := decide (1 ≤ v) && decide (v ≤ 3) && decide (bits .andNot .u32 f (ceil v) = 0)
theorem mayB_lo {v f : Int} (h : v < 1) : mayB v f = false := by unfold mayB; rw [decide_eq_false (by omega)]; rfl
theorem mayB_hi {v f : Int} (h : 3 < v) : mayB v f = false := by unfold mayB; rw [decide_eq_false (p := v ≤ 3) (by omega)]; simp
theorem mayB_mid {v f : Int} (h1 : 1 ≤ v) (h3 : v ≤ 3) : mayB v f = decide (bits .andNot .u32 f (ceil v) = 0) := by unfold mayB; simp [h1, h3]

def MayPost (v f : Int) (w : World) (e : Ending) (w' : World) : Prop := e = .returned (.bool (mayB v f)) ∧ ∃ n, (w.alloc (.cells #[.int .i64 v, .int .u32 f] 26)).drewN n = w'
theorem may_close {v f : Int} {w : World} {b : Bool} (h : mayB v f = b) (n : Nat) : MayPost v f w (.returned (.bool b)) ((w.alloc (.cells #[.int .i64 v, .int .u32 f] 26)).drewN n) := by
  subst h
  exact ⟨rfl, n, rfl⟩
set_option maxHeartbeats 400000 in
theorem may_any (v f : Int) (w : World) : Calls Try.prog 11 #[.agg #[.int .i64 v, .int .u32 f]] w (MayPost v f w) := by
  by_cases h1 : v < 1
  · have HV := Lib.hid (mayB_lo (f := f) h1)
    have hn : decide (1 ≤ v) = false := decide_eq_false (by omega)
    go_enter Try.func11, Try.ntmps11
    go_wp2_with (first | (go_at_call 9; refine (ceiling_any _ _).mono ?_; rintro e w' ⟨rfl, rfl⟩))
    refine wp_region_bits [(0, true), (1, true), (2, true), (3, true), (4, true), (5, true), (6, true), (7, true), (8, true), (9, true), (10, true), (11, true), (12, true), (13, false), (14, true), (15, true), (16, true), (17, true)] [] (by kernel_rfl) (by kernel_rfl) (fun c a d v w h => by cases d <;> exact h) ?_
    simp only [bits_, bitOf, List.getElem?_cons_zero, List.getElem?_cons_succ, List.contains_nil]
    repeat (first
      | (refine bits_take (v := ?_) (by rfl) ?_ ?_; rotate_left; (· intro w' hS; go_simp; (repeat (rw [hS.at_]; rotate_left; (· go_simp); go_simp)); with_reducible rfl); (try simp only [Act.put, List.setIfInBounds_toArray, List.set_cons_zero, List.set_cons_succ]))
      | (refine bits_skip (by rfl) ?_; (try simp only [Act.put, List.setIfInBounds_toArray, List.set_cons_zero, List.set_cons_succ]))
      | (refine bits_pass (by rfl) ?_ ?_; (· repeat (first | (with_reducible (first | exact Keep.refl _ | refine Keep.left _ ?_ | refine Keep.drew ?_ | refine Keep.drewN ?_ _ | refine Keep.alloc ?_ _)) | (refine Keep.below ?_ (by assumption)))); (try simp only [Act.put, List.setIfInBounds_toArray, List.set_cons_zero, List.set_cons_succ]))
      | (refine bits_eff (by rfl) (fun K hK => ?_); go_simp; (first | (go_at_call 9; refine (ceiling_any _ _).mono ?_; rintro e w' ⟨rfl, rfl⟩) | go_at_K); refine hK _ _ ?_ ?_; (· repeat (first | (with_reducible (first | exact Keep.refl _ | refine Keep.left _ ?_ | refine Keep.drew ?_ | refine Keep.drewN ?_ _ | refine Keep.alloc ?_ _)) | (refine Keep.below ?_ (by assumption)))); clear hK K; (try simp only [Act.put, List.setIfInBounds_toArray, List.set_cons_zero, List.set_cons_succ])))
    refine bits_nil ?_
    go_wp2
    go_ret
    exact may_close HV.out 1
  · by_cases h3 : 3 < v
    · have HV := Lib.hid (mayB_hi (f := f) h3)
      have hn : decide (v ≤ 3) = false := decide_eq_false (by omega)
      have hm : 1 ≤ v := by omega
      go_enter Try.func11, Try.ntmps11
      go_wp2_with (first | (go_at_call 9; refine (ceiling_any _ _).mono ?_; rintro e w' ⟨rfl, rfl⟩))
      refine wp_region_bits [(0, true), (1, true), (2, true), (3, true), (4, true), (5, true), (6, true), (7, true), (8, true), (9, true), (10, true), (11, true), (12, true), (13, false), (14, true), (15, true), (16, true), (17, true)] [] (by kernel_rfl) (by kernel_rfl) (fun c a d v w h => by cases d <;> exact h) ?_
      simp only [bits_, bitOf, List.getElem?_cons_zero, List.getElem?_cons_succ, List.contains_nil]
      repeat (first
        | (refine bits_take (v := ?_) (by rfl) ?_ ?_; rotate_left; (· intro w' hS; go_simp; (repeat (rw [hS.at_]; rotate_left; (· go_simp); go_simp)); with_reducible rfl); (try simp only [Act.put, List.setIfInBounds_toArray, List.set_cons_zero, List.set_cons_succ]))
        | (refine bits_skip (by rfl) ?_; (try simp only [Act.put, List.setIfInBounds_toArray, List.set_cons_zero, List.set_cons_succ]))
        | (refine bits_pass (by rfl) ?_ ?_; (· repeat (first | (with_reducible (first | exact Keep.refl _ | refine Keep.left _ ?_ | refine Keep.drew ?_ | refine Keep.drewN ?_ _ | refine Keep.alloc ?_ _)) | (refine Keep.below ?_ (by assumption)))); (try simp only [Act.put, List.setIfInBounds_toArray, List.set_cons_zero, List.set_cons_succ]))
        | (refine bits_eff (by rfl) (fun K hK => ?_); go_simp; (first | (go_at_call 9; refine (ceiling_any _ _).mono ?_; rintro e w' ⟨rfl, rfl⟩) | go_at_K); refine hK _ _ ?_ ?_; (· repeat (first | (with_reducible (first | exact Keep.refl _ | refine Keep.left _ ?_ | refine Keep.drew ?_ | refine Keep.drewN ?_ _ | refine Keep.alloc ?_ _)) | (refine Keep.below ?_ (by assumption)))); clear hK K; (try simp only [Act.put, List.setIfInBounds_toArray, List.set_cons_zero, List.set_cons_succ])))
      refine bits_nil ?_
      go_wp2
      go_ret
      exact may_close HV.out 1
    · have HV := Lib.hid (mayB_mid (f := f) (show 1 ≤ v by omega) (show v ≤ 3 by omega))
      have h1' : 1 ≤ v := by omega
      have h3' : v ≤ 3 := by omega
      go_enter Try.func11, Try.ntmps11
      go_wp2_with (first | (go_at_call 9; refine (ceiling_any _ _).mono ?_; rintro e w' ⟨rfl, rfl⟩))
      refine wp_region_bits [(0, true), (1, true), (2, true), (3, true), (4, true), (5, true), (6, true), (7, true), (8, true), (9, true), (10, true), (11, true), (12, true), (13, false), (14, true), (15, true), (16, true), (17, true)] [] (by kernel_rfl) (by kernel_rfl) (fun c a d v w h => by cases d <;> exact h) ?_
      simp only [bits_, bitOf, List.getElem?_cons_zero, List.getElem?_cons_succ, List.contains_nil]
      repeat (first
        | (refine bits_take (v := ?_) (by rfl) ?_ ?_; rotate_left; (· intro w' hS; go_simp; (repeat (rw [hS.at_]; rotate_left; (· go_simp); go_simp)); with_reducible rfl); (try simp only [Act.put, List.setIfInBounds_toArray, List.set_cons_zero, List.set_cons_succ]))
        | (refine bits_skip (by rfl) ?_; (try simp only [Act.put, List.setIfInBounds_toArray, List.set_cons_zero, List.set_cons_succ]))
        | (refine bits_pass (by rfl) ?_ ?_; (· repeat (first | (with_reducible (first | exact Keep.refl _ | refine Keep.left _ ?_ | refine Keep.drew ?_ | refine Keep.drewN ?_ _ | refine Keep.alloc ?_ _)) | (refine Keep.below ?_ (by assumption)))); (try simp only [Act.put, List.setIfInBounds_toArray, List.set_cons_zero, List.set_cons_succ]))
        | (refine bits_eff (by rfl) (fun K hK => ?_); go_simp; (first | (go_at_call 9; refine (ceiling_any _ _).mono ?_; rintro e w' ⟨rfl, rfl⟩) | go_at_K); refine hK _ _ ?_ ?_; (· repeat (first | (with_reducible (first | exact Keep.refl _ | refine Keep.left _ ?_ | refine Keep.drew ?_ | refine Keep.drewN ?_ _ | refine Keep.alloc ?_ _)) | (refine Keep.below ?_ (by assumption)))); clear hK K; (try simp only [Act.put, List.setIfInBounds_toArray, List.set_cons_zero, List.set_cons_succ])))
      refine bits_nil ?_
      go_wp2
      go_ret
      exact may_close HV.out 1
end Go.Proofs.Ytblhbhhgpfcfbaa
