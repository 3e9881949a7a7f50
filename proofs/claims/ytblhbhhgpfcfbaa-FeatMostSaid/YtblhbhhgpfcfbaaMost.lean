/- What is chosen may be, and both can do it; nothing greater that may be can be done by both: the walk. -/
import Derived.Test.YtblhbhhgpfcfbaaMay
namespace Go.Proofs.Ytblhbhhgpfcfbaa
open Go.RowKit
attribute [local go_sem] alloc_drewN setCell_drewN


theorem mayB_ch {am bm : Int} {x y : Nat} (h : 1 ≤ am ∧ 1 ≤ bm ∧ am ≤ 3 ∧ bm ≤ 3) (hx : x < 4294967296) (hy : y < 4294967296) : mayB (chV am bm) (chF am bm x y) = true := by
  rw [chV_yes h, mayB_mid (by omega) (by omega), chF_N am bm x y hx hy, ceil_N]
  refine decide_eq_true ((andNot_iff (chFN_lt _ _ _ _ hx) (ceilN_lt _)).2 ?_)
  rw [chFN_yes x y h]
  exact and_sub_right _ _
theorem ch_left {am bm : Int} {x y : Nat} (h : 1 ≤ am ∧ 1 ≤ bm ∧ am ≤ 3 ∧ bm ≤ 3) (hx : x < 4294967296) (hy : y < 4294967296) : bits .andNot .u32 (chF am bm x y) (x : Int) = 0 := by
  rw [chF_N am bm x y hx hy, andNot_iff (chFN_lt _ _ _ _ hx) hx, chFN_yes x y h]
  exact (and_sub_left _ _).trans (and_sub_left _ _)
theorem ch_right {am bm : Int} {x y : Nat} (h : 1 ≤ am ∧ 1 ≤ bm ∧ am ≤ 3 ∧ bm ≤ 3) (hx : x < 4294967296) (hy : y < 4294967296) : bits .andNot .u32 (chF am bm x y) (y : Int) = 0 := by
  rw [chF_N am bm x y hx hy, andNot_iff (chFN_lt _ _ _ _ hx) hy, chFN_yes x y h]
  exact (and_sub_left _ _).trans (and_sub_right _ _)
theorem ch_most {am bm cv : Int} {x y z : Nat} (h : 1 ≤ am ∧ 1 ≤ bm ∧ am ≤ 3 ∧ bm ≤ 3) (hx : x < 4294967296) (hy : y < 4294967296) (hz : z < 4294967296)
    (c1 : mayB cv z = true) (c2 : cv ≤ am) (c3 : cv ≤ bm) (c4 : bits .andNot .u32 z x = 0) (c5 : bits .andNot .u32 z y = 0) : cv ≤ chV am bm ∧ bits .andNot .u32 z (chF am bm x y) = 0 := by
  have hv : 1 ≤ cv := by
    rcases Int.lt_or_le cv 1 with k | k
    · rw [mayB_lo k] at c1; cases c1
    · exact k
  rw [mayB_mid hv (by omega), decide_eq_true_eq, ceil_N, andNot_iff hz (ceilN_lt _)] at c1
  rw [andNot_iff hz hx] at c4
  rw [andNot_iff hz hy] at c5
  refine ⟨by rw [chV_yes h]; omega, ?_⟩
  rw [chF_N am bm x y hx hy, andNot_iff hz (chFN_lt _ _ _ _ hx), chFN_yes x y h]
  exact sub_and.2 ⟨sub_and.2 ⟨c4, c5⟩, c1.trans (ceilN_mono hv (by omega) (by omega))⟩

set_option maxHeartbeats 1000000 in
theorem most_no (am bm cv : Int) (af bf cf : Int) (w : World) (t1 : chE am bm = 1) (t2 : chV am bm = 0) (t3 : chF am bm af bf = 0) :
    Calls Try.prog 6 #[.agg #[.int .i64 am, .int .u32 af], .agg #[.int .i64 bm, .int .u32 bf], .agg #[.int .i64 cv, .int .u32 cf]] w fun e w' => e = .returned (.bool true) ∧ Below w.heap.size w w' := by
  go_enter Try.func6, Try.ntmps6
  go_wp2_with (first | (go_at_call 7; refine (choose_any _ _ _ _ _).mono ?_; rintro e w1 ⟨rfl, nn, rfl⟩) | (go_at_call 8; refine (fixed_any _).mono ?_; rintro e w4 ⟨rfl, n4, rfl⟩) | (go_at_call 11; refine (may_any _ _ _).mono ?_; rintro e w5 ⟨rfl, n5, rfl⟩))
  go_ret
  refine ⟨rfl, ?_⟩
  repeat (with_reducible (first | exact Below.refl _ _ | refine below_drewN ?_ _ | refine Below.alloc ?_ (by simp; try omega) _))

def MostWay (am bm cv af bf cf : Int) : Prop :=
  mayB cv cf = false ∨ (mayB cv cf = true ∧ decide (cv ≤ am) = false) ∨ (mayB cv cf = true ∧ cv ≤ am ∧ decide (cv ≤ bm) = false) ∨
  (mayB cv cf = true ∧ cv ≤ am ∧ cv ≤ bm ∧ (bits .andNot .u32 cf af == 0) = false) ∨ (mayB cv cf = true ∧ cv ≤ am ∧ cv ≤ bm ∧ bits .andNot .u32 cf af = 0 ∧ (bits .andNot .u32 cf bf == 0) = false) ∨
  (mayB cv cf = true ∧ cv ≤ am ∧ cv ≤ bm ∧ bits .andNot .u32 cf af = 0 ∧ bits .andNot .u32 cf bf = 0 ∧ cv ≤ chV am bm ∧ bits .andNot .u32 cf (chF am bm af bf) = 0)

set_option maxHeartbeats 2000000 in
theorem most_yes (am bm cv : Int) (af bf cf : Int) (w : World) (t1 : chE am bm = 0) (t2 : mayB (chV am bm) (chF am bm af bf) = true) (t3 : chV am bm ≤ am) (t4 : chV am bm ≤ bm)
    (t5 : bits .andNot .u32 (chF am bm af bf) af = 0) (t6 : bits .andNot .u32 (chF am bm af bf) bf = 0) (way : MostWay am bm cv af bf cf) :
    Calls Try.prog 6 #[.agg #[.int .i64 am, .int .u32 af], .agg #[.int .i64 bm, .int .u32 bf], .agg #[.int .i64 cv, .int .u32 cf]] w fun e w' => e = .returned (.bool true) ∧ Below w.heap.size w w' := by
  rcases way with c1 | ⟨c1, c2⟩ | ⟨c1, c2, c3⟩ | ⟨c1, c2, c3, c4⟩ | ⟨c1, c2, c3, c4, c5⟩ | ⟨c1, c2, c3, c4, c5, c6, c7⟩
  all_goals
    go_enter Try.func6, Try.ntmps6
    go_wp2_with (first | (go_at_call 7; refine (choose_any _ _ _ _ _).mono ?_; rintro e w1 ⟨rfl, nn, rfl⟩) | (go_at_call 8; refine (fixed_any _).mono ?_; rintro e w4 ⟨rfl, n4, rfl⟩) | (go_at_call 11; refine (may_any _ _ _).mono ?_; rintro e w5 ⟨rfl, n5, rfl⟩))
    go_ret
    refine ⟨rfl, ?_⟩
    repeat (with_reducible (first | exact Below.refl _ _ | refine below_drewN ?_ _ | refine Below.alloc ?_ (by simp; try omega) _))

theorem most_walk (am bm cv : Int) (x y z : Nat) (hx : x < 4294967296) (hy : y < 4294967296) (hz : z < 4294967296) (w : World) :
    Calls Try.prog 6 #[.agg #[.int .i64 am, .int .u32 x], .agg #[.int .i64 bm, .int .u32 y], .agg #[.int .i64 cv, .int .u32 z]] w fun e w' => e = .returned (.bool true) ∧ Below w.heap.size w w' := by
  by_cases h : 1 ≤ am ∧ 1 ≤ bm ∧ am ≤ 3 ∧ bm ≤ 3
  · refine most_yes am bm cv x y z w (chE_yes h) (mayB_ch h hx hy) (by rw [chV_yes h]; omega) (by rw [chV_yes h]; omega) (ch_left h hx hy) (ch_right h hx hy) ?_
    unfold MostWay
    by_cases c1 : mayB cv z = true
    · by_cases c2 : cv ≤ am
      · by_cases c3 : cv ≤ bm
        · by_cases c4 : bits .andNot .u32 (z : Int) x = 0
          · by_cases c5 : bits .andNot .u32 (z : Int) y = 0
            · exact .inr (.inr (.inr (.inr (.inr ⟨c1, c2, c3, c4, c5, ch_most h hx hy hz c1 c2 c3 c4 c5⟩))))
            · exact .inr (.inr (.inr (.inr (.inl ⟨c1, c2, c3, c4, by simpa using c5⟩))))
          · exact .inr (.inr (.inr (.inl ⟨c1, c2, c3, by simpa using c4⟩)))
        · exact .inr (.inr (.inl ⟨c1, c2, decide_eq_false c3⟩))
      · exact .inr (.inl ⟨c1, decide_eq_false c2⟩)
    · exact .inl (by simpa using c1)
  · exact most_no am bm cv x y z w (if_neg h) (if_neg h) (if_neg h)
end Go.Proofs.Ytblhbhhgpfcfbaa
