/- What is chosen, what may be and what a version can have are the document's: the walk. -/
import Derived.Test.YtblhbhhgpfcfbaaRefChoose
import Derived.Test.YtblhbhhgpfcfbaaRefMay
namespace Go.Proofs.Ytblhbhhgpfcfbaa
open Go.RowKit
attribute [local go_sem] alloc_drewN setCell_drewN


theorem rceil_out (v : Int) (w : World) (h : ¬ (1 ≤ v ∧ v ≤ 3)) : Calls Try.prog 13 #[.int .i64 v] w fun e w' => e = .returned (.int .u32 0) ∧ w = w' := by
  have hc : v < 1 ∨ (1 ≤ v ∧ 3 < v) := by omega
  rcases hc with h1 | ⟨h1, h3⟩
  all_goals
    go_enter Try.func13, Try.ntmps13
    go_wp2
    go_ret
    exact ⟨rfl, rfl⟩
theorem rceil_all (v : Int) (w : World) : Calls Try.prog 13 #[.int .i64 v] w fun e w' => e = .returned (.int .u32 (ceil v)) ∧ w = w' := by
  by_cases h : 1 ≤ v ∧ v ≤ 3
  · rw [ceil_N]
    exact rceil_any v w h.1 h.2
  · have hz : ceil v = 0 := by unfold ceil; rw [if_neg (by omega), if_neg (by omega), if_neg (by omega)]
    rw [hz]
    exact rceil_out v w h
set_option maxHeartbeats 1000000 in
theorem chooses_walk (am bm cv : Int) (x y z : Nat) (hx : x < 4294967296) (hy : y < 4294967296) (hz : z < 4294967296) (w : World) :
    Calls Try.prog 5 #[.agg #[.int .i64 am, .int .u32 x], .agg #[.int .i64 bm, .int .u32 y], .agg #[.int .i64 cv, .int .u32 z]] w fun e w' => e = .returned (.bool true) ∧ Below w.heap.size w w' := by
  go_enter Try.func5, Try.ntmps5
  go_wp2_with (first | (go_at_call 7; refine (choose_any _ _ _ _ _).mono ?_; rintro e w1 ⟨rfl, nn, rfl⟩))
  refine (rchoose_any _ _ _ _ _ hx hy).mono ?_
  rintro e w2 ⟨rfl, hb2⟩
  obtain ⟨hc2, hf2⟩ := bcell hb2
  have hz2 := hb2.size
  simp at hz2
  have q1 : w.heap.size + 1 + 1 < w2.heap.size := by omega
  have q2 : w.heap.size + 1 + 1 + 1 + 1 + 1 + 1 < w2.heap.size := by omega
  have g1 : w2.cell? ⟨w.heap.size + 1 + 1, 0, none⟩ = some (.int .i64 cv) := by rw [hc2 _ _ (by simp)]; go_simp
  have g2 : w2.cell? ⟨w.heap.size + 1 + 1, 1, none⟩ = some (.int .u32 z) := by rw [hc2 _ _ (by simp)]; go_simp
  have g3 : w2.cell? ⟨w.heap.size + 1 + 1 + 1 + 1 + 1 + 1, 0, none⟩ = some (.int .i64 (chV am bm)) := by rw [hc2 _ _ (by simp)]; go_simp
  have g4 : w2.cell? ⟨w.heap.size + 1 + 1 + 1 + 1 + 1 + 1, 1, none⟩ = some (.int .u32 (chF am bm x y)) := by rw [hc2 _ _ (by simp)]; go_simp
  have hb := Lib.hid hb2
  clear hc2 hf2 hb2
  go_wp2_with fail
  refine wp_region_bits [(0, false), (1, true), (2, true), (3, true), (4, true), (5, true), (6, true), (7, true), (8, true), (9, true), (10, true), (11, true), (12, true), (14, true), (13, false), (15, false), (16, true), (17, true), (18, true), (19, true), (20, true), (22, true), (23, true), (21, false), (24, false), (25, true), (26, true), (27, true)] [] (by kernel_rfl) (by kernel_rfl) (fun c a d v w h => by cases d <;> exact h) ?_
  simp only [bits_, bitOf, List.getElem?_cons_zero, List.getElem?_cons_succ, List.contains_nil]
  repeat (first
    | (refine bits_take (v := ?_) (by rfl) ?_ ?_; rotate_left; (· intro w' hS; go_simp; (repeat (rw [hS.at_]; rotate_left; (· go_simp); go_simp)); (try (go_ints; try go_simp)); with_reducible rfl); (try simp only [Act.put, List.setIfInBounds_toArray, List.set_cons_zero, List.set_cons_succ]))
    | (refine bits_skip (by rfl) ?_; (try simp only [Act.put, List.setIfInBounds_toArray, List.set_cons_zero, List.set_cons_succ]))
    | (refine bits_pass (by rfl) ?_ ?_; (· repeat (first | (with_reducible (first | exact Keep.refl _ | refine Keep.left _ ?_ | refine Keep.drew ?_ | refine Keep.drewN ?_ _ | refine Keep.alloc ?_ _)) | (refine Keep.below ?_ (by assumption)))); (try simp only [Act.put, List.setIfInBounds_toArray, List.set_cons_zero, List.set_cons_succ]))
    | (refine bits_eff (by rfl) (fun K hK => ?_); go_simp; (try go_ints); (first | (go_at_call 8; refine (fixed_any _).mono ?_; rintro e w4 ⟨rfl, n4, rfl⟩) | (go_at_call 11; refine (may_any _ _ _).mono ?_; rintro e w5 ⟨rfl, n5, rfl⟩) | (go_at_call 12; refine (rmay_any _ _ _ hz).mono ?_; rintro e w5 ⟨rfl, n6, rfl⟩) | (go_at_call 9; refine (ceiling_any _ _).mono ?_; rintro e w' ⟨rfl, rfl⟩) | (go_at_call 13; refine (rceil_all _ _).mono ?_; rintro e w5 ⟨rfl, rfl⟩) | go_at_K); refine hK _ _ ?_ ?_; (· repeat (first | (with_reducible (first | exact Keep.refl _ | refine Keep.left _ ?_ | refine Keep.drew ?_ | refine Keep.drewN ?_ _ | refine Keep.alloc ?_ _)) | (refine Keep.below ?_ (by assumption)))); clear hK K; (try simp only [Act.put, List.setIfInBounds_toArray, List.set_cons_zero, List.set_cons_succ])))
  refine bits_nil ?_
  go_wp2
  go_ret
  refine ⟨rfl, ?_⟩
  have hb2 := hb.out
  repeat (first | (with_reducible (first | exact Below.refl _ _ | refine below_drewN ?_ _ | refine Below.drew ?_ | refine Below.alloc ?_ (by first | omega | (simp; done) | (simp; omega)) _)) | (refine Below.trans ?_ ((by assumption : Below _ _ _).mono (by first | omega | (simp; done) | (simp; omega)))))
end Go.Proofs.Ytblhbhhgpfcfbaa
