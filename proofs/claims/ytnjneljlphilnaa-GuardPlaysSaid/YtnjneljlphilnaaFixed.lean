/- The guard's beginning, its greatest number, a nil guard, and the chapter's example. -/
import Derived.Test.YtnjneljlphilnaaTake
namespace Go.Proofs.Ytnjneljlphilnaa
open Go.RowKit
attribute [local go_sem] alloc_drewN setCell_drewN


theorem chk_le (s : St) (n : Nat) (h : chk s n = 0) : n ≤ 4611686018427387904 := by
  unfold chk at h
  split at h
  · omega
  · omega
theorem tk_ok (s : St) (n : Nat) (h : s.ok) : (tk s n).ok := by
  unfold tk
  by_cases hc : chk s n ≠ 0
  · rw [if_pos hc]; exact h
  · have hn := chk_le s n (by omega)
    rw [if_neg hc]
    split
    · exact ⟨hn, by simp only; omega⟩
    · split
      · refine ⟨hn, ?_⟩
        refine Nat.or_lt_two_pow (n := 64) ?_ (by omega)
        split
        · omega
        · exact Nat.mod_lt _ (by omega)
      · refine ⟨h.1, Nat.or_lt_two_pow (n := 64) h.2 ?_⟩
        rename_i h1 h2
        have : s.top - n < 64 := by
          by_cases h3 : s.top - n < 64
          · exact h3
          · exfalso
            apply hc
            unfold chk
            rw [if_neg (by omega), if_neg (by intro hh; rcases hh with hh | hh; exact h1 hh; exact h2 hh), if_pos (.inl (by omega))]
            omega
        exact Nat.pow_lt_pow_right (by omega) this
def s0 : St := ⟨false, 0, 0⟩
theorem new_any (w : World) : Calls Try.prog 8 #[] w fun e w' => e = .returned (.pointer (some ⟨w.heap.size, 0, none⟩)) ∧ w.alloc (.cells #[.bool false, .int .u64 0, .int .u64 0] 49) = w' := by
  go_enter Try.func8, Try.ntmps8
  go_wp2
  go_ret
  exact ⟨rfl, rfl⟩
theorem s0_ok : s0.ok := ⟨by simp [s0], by simp [s0]⟩
theorem G_new (w : World) : G (w.alloc (.cells #[.bool false, .int .u64 0, .int .u64 0] 49)) w.heap.size s0 := Own.new w _ _

theorem take_at {g : Nat} {s : St} {n : Nat} {w : World} (hg : G w g s) (hk : s.ok) {m : Int} (hm : m = n) {c : Nat} {s' : St} (hc : chk s n = c) (ht : tk s n = s') : Calls Try.prog 10 #[.pointer (some ⟨g, 0, none⟩), .int .u64 m] w (TkPost g c s' w) := by
  subst hc ht hm
  exact take_any g s n w hg hk
theorem check_at {g : Nat} {s : St} {n : Nat} {w : World} (hg : G w g s) (hk : s.ok) {m : Int} (hm : m = n) {c : Nat} (hc : chk s n = c) : Calls Try.prog 11 #[.pointer (some ⟨g, 0, none⟩), .int .u64 m] w (CkPost c w) := by
  subst hc hm
  exact check_any g s n w hg hk

set_option maxHeartbeats 1000000 in
theorem fixed_any (w : World) : Calls Try.prog 9 #[] w fun e w' => e = .returned (.bool true) ∧ Below w.heap.size w w' := by
  go_enter Try.func9, Try.ntmps9
  go_wp2_with fail
  refine (new_any _).mono ?_
  rintro e w' ⟨rfl, rfl⟩
  have HG := Lib.hid (G_new w)
  go_wp2_with fail
  refine (take_at HG.out s0_ok (n := 70) (m := 70) rfl (c := 0) (s' := ⟨true, 70, 1⟩) (by decide) (by kernel_rfl)).mono ?_
  rintro e w1 ⟨rfl, hg1, ht1⟩
  have G1 := Lib.hid hg1
  have T1 := Lib.hid ht1
  clear hg1 ht1
  go_wp2_with fail
  refine (take_at G1.out (show St.ok ⟨true, 70, 1⟩ from ⟨by simp, by simp⟩) (n := 70) (m := 70) rfl (c := 10) (s' := ⟨true, 70, 1⟩) (by decide) (by kernel_rfl)).mono ?_
  rintro e w2 ⟨rfl, hg2, ht2⟩
  have G2 := Lib.hid hg2
  have T2 := Lib.hid ht2
  clear hg2 ht2
  go_wp2_with fail
  refine (take_at G2.out (show St.ok ⟨true, 70, 1⟩ from ⟨by simp, by simp⟩) (n := 7) (m := 7) rfl (c := 0) (s' := ⟨true, 70, 9223372036854775809⟩) (by decide) (by kernel_rfl)).mono ?_
  rintro e w3 ⟨rfl, hg3, ht3⟩
  have G3 := Lib.hid hg3
  have T3 := Lib.hid ht3
  clear hg3 ht3
  go_wp2_with fail
  refine (take_at G3.out (show St.ok ⟨true, 70, 9223372036854775809⟩ from ⟨by simp, by simp⟩) (n := 6) (m := 6) rfl (c := 10) (s' := ⟨true, 70, 9223372036854775809⟩) (by decide) (by kernel_rfl)).mono ?_
  rintro e w4 ⟨rfl, hg4, ht4⟩
  have G4 := Lib.hid hg4
  have T4 := Lib.hid ht4
  clear hg4 ht4
  go_wp2_with fail
  refine (take_at G4.out (show St.ok ⟨true, 70, 9223372036854775809⟩ from ⟨by simp, by simp⟩) (n := 71) (m := 71) rfl (c := 0) (s' := ⟨true, 71, 3⟩) (by decide) (by kernel_rfl)).mono ?_
  rintro e w5 ⟨rfl, hg5, ht5⟩
  have G5 := Lib.hid hg5
  have T5 := Lib.hid ht5
  clear hg5 ht5
  go_wp2_with fail
  refine (check_at G5.out (show St.ok ⟨true, 71, 3⟩ from ⟨by simp, by simp⟩) (n := 7) (m := 7) rfl (c := 10) (by decide)).mono ?_
  rintro e w6 ⟨rfl, m6, rfl⟩
  go_wp2_with fail
  go_ret
  refine ⟨rfl, below_drewN ?_ _⟩
  have h1 := ((Below.refl w.heap.size w).alloc (Nat.le_refl _) (.cells #[.bool false, .int .u64 0, .int .u64 0] 49)).grown T1.out (by simp) (fun k hk => by cases hk; exact Nat.le_refl _)
  have h2 := h1.grown T2.out h1.size (fun k hk => by cases hk; exact Nat.le_refl _)
  have h3 := h2.grown T3.out h2.size (fun k hk => by cases hk; exact Nat.le_refl _)
  have h4 := h3.grown T4.out h3.size (fun k hk => by cases hk; exact Nat.le_refl _)
  exact h4.grown T5.out h4.size (fun k hk => by cases hk; exact Nat.le_refl _)

/-- The greatest number. -/
theorem top_any (g : Nat) (s : St) (w : World) (hg : G w g s) : Calls Try.prog 14 #[.pointer (some ⟨g, 0, none⟩)] w fun e w' => e = .returned (.tuple #[.int .u64 (if s.any then s.top else 0 : Nat), .bool s.any]) ∧ ∃ m, w.drewN m = w' := by
  obtain ⟨any, top, seen⟩ := s
  obtain ⟨c0, c1, c2⟩ := hg.cell
  simp only at c0 c1 c2
  cases any
  all_goals
    go_enter Try.func14, Try.ntmps14
    go_wp2
    go_ret2
    exact ⟨rfl, 0, rfl⟩
theorem nil_check (n : Nat) (w : World) : Calls Try.prog 11 #[.pointer none, .int .u64 n] w fun e w' => e = .returned (.int .i64 1) ∧ ∃ m, w.drewN m = w' := by
  go_enter Try.func11, Try.ntmps11
  go_wp2
  go_ret
  exact ⟨rfl, 0, rfl⟩
theorem nil_take (n : Nat) (w : World) : Calls Try.prog 10 #[.pointer none, .int .u64 n] w fun e w' => e = .returned (.int .i64 1) ∧ ∃ m, w.drewN m = w' := by
  go_enter Try.func10, Try.ntmps10
  go_wp2_with (go_at_call 11; refine (nil_check _ _).mono ?_; rintro e w' ⟨rfl, m, rfl⟩)
  go_ret
  exact ⟨rfl, _, rfl⟩
theorem nil_top (w : World) : Calls Try.prog 14 #[.pointer none] w fun e w' => e = .returned (.tuple #[.int .u64 0, .bool false]) ∧ ∃ m, w.drewN m = w' := by
  go_enter Try.func14, Try.ntmps14
  go_wp2
  go_ret2
  exact ⟨rfl, 0, rfl⟩
end Go.Proofs.Ytnjneljlphilnaa
