/- What an end offers more makes a choice never less: the walk. -/
import Derived.Test.YtblhbhhgpfcfbaaPlain
namespace Go.Proofs.Ytblhbhhgpfcfbaa
open Go.RowKit
attribute [local go_sem] alloc_drewN setCell_drewN

theorem grows_no (am bm : Int) (af bf mr : Int) (w : World) (h : chE am bm = 1 ∨ (chE am bm = 0 ∧ 2 < am)) :
    Calls Try.prog 4 #[.agg #[.int .i64 am, .int .u32 af], .agg #[.int .i64 bm, .int .u32 bf], .int .u32 mr] w fun e w' => e = .returned (.bool true) ∧ Below w.heap.size w w' := by
  rcases h with t1 | ⟨t1, t2⟩
  all_goals
    go_enter Try.func4, Try.ntmps4
    go_wp2_with (first | (go_at_call 7; refine (choose_any _ _ _ _ _).mono ?_; rintro e w1 ⟨rfl, nn, rfl⟩) | (go_at_call 8; refine (fixed_any _).mono ?_; rintro e w4 ⟨rfl, n4, rfl⟩))
    go_ret
    refine ⟨rfl, ?_⟩
    repeat (with_reducible (first | exact Below.refl _ _ | refine below_drewN ?_ _ | refine Below.alloc ?_ (by simp; try omega) _))
set_option maxHeartbeats 1000000 in
theorem grows_yes (am bm : Int) (af bf mr : Int) (w : World) (h0 : 1 ≤ am) (h : chE am bm = 0) (h2 : am ≤ 2) (e1 : chE (am + 1) bm = 0) (e2 : chV am bm ≤ chV (am + 1) bm) (e3 : bits .andNot .u32 (chF am bm af bf) (chF (am + 1) bm (bits .or .u32 af mr) bf) = 0) :
    Calls Try.prog 4 #[.agg #[.int .i64 am, .int .u32 af], .agg #[.int .i64 bm, .int .u32 bf], .int .u32 mr] w fun e w' => e = .returned (.bool true) ∧ Below w.heap.size w w' := by
  go_enter Try.func4, Try.ntmps4
  go_wp2_with (first | (go_at_call 7; refine (choose_any _ _ _ _ _).mono ?_; rintro e w1 ⟨rfl, nn, rfl⟩) | (go_at_call 8; refine (fixed_any _).mono ?_; rintro e w4 ⟨rfl, n4, rfl⟩))
  go_ret
  refine ⟨rfl, ?_⟩
  repeat (with_reducible (first | exact Below.refl _ _ | refine below_drewN ?_ _ | refine Below.alloc ?_ (by simp; try omega) _))

theorem grows_walk (am bm : Int) (x y m : Nat) (hx : x < 4294967296) (hy : y < 4294967296) (hm : m < 4294967296) (w : World) :
    Calls Try.prog 4 #[.agg #[.int .i64 am, .int .u32 x], .agg #[.int .i64 bm, .int .u32 y], .int .u32 m] w fun e w' => e = .returned (.bool true) ∧ Below w.heap.size w w' := by
  by_cases h : 1 ≤ am ∧ 1 ≤ bm ∧ am ≤ 3 ∧ bm ≤ 3
  · by_cases h2 : am ≤ 2
    · obtain ⟨e1, e2, e3⟩ := grows (x := x) (y := y) (m := m) h h2 hx hy hm
      exact grows_yes am bm x y m w h.1 (chE_yes h) h2 e1 e2 e3
    · exact grows_no am bm x y m w (.inr ⟨chE_yes h, by omega⟩)
  · exact grows_no am bm x y m w (.inl (if_neg h))
end Go.Proofs.Ytblhbhhgpfcfbaa
