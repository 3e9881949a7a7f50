/- Which offer stands first plays no part in a choice; an offer against itself is chosen, as far as its version can have it: the walk. -/
import Derived.Test.YtblhbhhgpfcfbaaBase
namespace Go.Proofs.Ytblhbhhgpfcfbaa
open Go.RowKit
attribute [local go_sem] alloc_drewN setCell_drewN

theorem bits_and_comm (a b : Int) : bits .and .u32 a b = bits .and .u32 b a := by
  simp only [bits, BitVec.and_comm]
theorem chV_comm (a b : Int) : chV b a = chV a b := by unfold chV; split <;> split <;> omega
theorem chE_comm (a b : Int) : chE b a = chE a b := by unfold chE; split <;> split <;> omega
theorem chF_comm (a b x y : Int) : chF b a y x = chF a b x y := by
  unfold chF
  rw [bits_and_comm y x, show min b a = min a b from by omega]
  by_cases h : 1 ≤ a ∧ 1 ≤ b ∧ a ≤ 3 ∧ b ≤ 3
  · rw [if_pos h, if_pos (by omega)]
  · rw [if_neg h, if_neg (by omega)]
theorem ch_self (n : Nat) (am : Int) (h : n < 4294967296) : chE am am = 1 ∨ (chE am am = 0 ∧ chV am am = am ∧ chF am am n n = bits .and .u32 n (ceil am)) := by
  by_cases ok : 1 ≤ am ∧ 1 ≤ am ∧ am ≤ 3 ∧ am ≤ 3
  · refine .inr ⟨if_pos ok, (if_pos ok).trans (by omega), (if_pos ok).trans ?_⟩
    rw [show min am am = am from by omega, u32_and_nat n n h h, Nat.and_self]
  · exact .inl (if_neg ok)

set_option maxHeartbeats 1000000 in
theorem either_core (am bm bf : Int) (af : Int) (w : World) (t1 : (chE am am = 1) ∨ (chE am am = 0 ∧ chV am am = am ∧ chF am am af af = bits .and .u32 af (ceil am))) :
    Calls Try.prog 3 #[.agg #[.int .i64 am, .int .u32 af], .agg #[.int .i64 bm, .int .u32 bf]] w fun e w' => e = .returned (.bool true) ∧ Below w.heap.size w w' := by
  have s1 := chV_comm am bm
  have s2 := chE_comm am bm
  have s3 := chF_comm am bm af bf
  rcases t1 with t1 | ⟨t1, t2, t3⟩
  all_goals
    go_enter Try.func3, Try.ntmps3
    go_wp2_with (go_at_call 7; refine (choose_any _ _ _ _ _).mono ?_; rintro e w1 ⟨rfl, nn, rfl⟩)
    refine wp_region_bits [(0, false), (1, true), (2, true), (3, true), (4, true), (5, true), (6, true), (7, true), (8, true), (9, true), (10, true), (11, true), (12, true), (13, true), (14, true), (15, true), (16, true), (17, true), (18, true), (19, true), (20, true), (21, true), (22, false), (23, true), (24, true), (25, true), (26, true), (27, true), (28, true)] [] (by kernel_rfl) (by kernel_rfl) (fun c a d v w h => by cases d <;> exact h) ?_
    simp only [bits_, bitOf, List.getElem?_cons_zero, List.getElem?_cons_succ, List.contains_nil]
    repeat (first
      | (refine bits_take (v := ?_) (by rfl) ?_ ?_; rotate_left; (· intro w' hS; go_simp; (repeat (rw [hS.at_]; rotate_left; (· go_simp); go_simp)); with_reducible rfl); (try simp only [Act.put, List.setIfInBounds_toArray, List.set_cons_zero, List.set_cons_succ]))
      | (refine bits_skip (by rfl) ?_; (try simp only [Act.put, List.setIfInBounds_toArray, List.set_cons_zero, List.set_cons_succ]))
      | (refine bits_pass (by rfl) ?_ ?_; (· repeat (first | (with_reducible (first | exact Keep.refl _ | refine Keep.left _ ?_ | refine Keep.drewN ?_ _ | refine Keep.alloc ?_ _)) | (refine Keep.below ?_ (by assumption)))); (try simp only [Act.put, List.setIfInBounds_toArray, List.set_cons_zero, List.set_cons_succ]))
      | (refine bits_eff (by rfl) (fun K hK => ?_); go_simp; (first | (go_at_call 8; refine (fixed_any _).mono ?_; rintro e w4 ⟨rfl, n4, rfl⟩) | (go_at_call 9; refine (ceiling_any _ _).mono ?_; rintro e w' ⟨rfl, rfl⟩) | go_at_K); refine hK _ _ ?_ ?_; (· repeat (first | (with_reducible (first | exact Keep.refl _ | refine Keep.left _ ?_ | refine Keep.drewN ?_ _ | refine Keep.alloc ?_ _)) | (refine Keep.below ?_ (by assumption)))); clear hK K; (try simp only [Act.put, List.setIfInBounds_toArray, List.set_cons_zero, List.set_cons_succ])))
    refine bits_nil ?_
    go_wp2
    go_ret
    refine ⟨rfl, ?_⟩
    repeat (with_reducible (first | exact Below.refl _ _ | refine below_drewN ?_ _ | refine Below.alloc ?_ (by simp; try omega) _))

theorem either_walk (am bm bf : Int) (n : Nat) (h : n < 4294967296) (w : World) :
    Calls Try.prog 3 #[.agg #[.int .i64 am, .int .u32 n], .agg #[.int .i64 bm, .int .u32 bf]] w fun e w' => e = .returned (.bool true) ∧ Below w.heap.size w w' :=
  either_core am bm bf n w (ch_self n am h)
end Go.Proofs.Ytblhbhhgpfcfbaa
