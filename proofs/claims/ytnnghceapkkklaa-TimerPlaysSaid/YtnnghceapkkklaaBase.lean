/- The timer: what its functions compute, on a state of four numbers. -/
import Derived.Test.YtnnghceapkkklaaRows
import Derived.Test.YtnnghceapkkklaaReg
import Derived.Test.YtnnghceapkkklaaMem
import Derived.WalkKit
import Derived.WalkSpells
import Derived.WalkLawsBesides
import Derived.Lib.Hide
import Derived.Deep.Draws
namespace Go.Proofs.Ytnnghceapkkklaa
open Go.RowKit
attribute [local go_sem] alloc_drewN setCell_drewN


structure St where
  any : Bool
  s : Nat
  v : Nat
  back : Nat
def St.ok (t : St) : Prop := t.s ≤ 80007 ∧ t.v ≤ 40003 ∧ t.back ≤ 5
def smp (t : St) (x : Nat) : St := if t.any = true then ⟨true, t.s - t.s / 8 + x, t.v - t.v / 4 + ((x - t.s / 8) + (t.s / 8 - x)), 0⟩ else ⟨true, 8 * x, 2 * x, 0⟩
def bck (t : St) : St := ⟨t.any, t.s, t.v, if t.back < 5 then t.back + 1 else t.back⟩
def wt (t : St) : Nat := min ((if t.any = true then max (t.s / 8 + t.v) 4 else 16) * 2 ^ t.back) 64
theorem smp_ok (t : St) (x : Nat) (h : t.ok) (hx : x ≤ 10000) : (smp t x).ok := by
  obtain ⟨h1, h2, h3⟩ := h
  unfold smp
  split
  · refine ⟨?_, ?_, by simp⟩
    · simp only
      omega
    · simp only
      omega
  · refine ⟨?_, ?_, by simp⟩
    · simp only
      omega
    · simp only
      omega
theorem bck_ok (t : St) (h : t.ok) : (bck t).ok := by
  obtain ⟨h1, h2, h3⟩ := h
  refine ⟨h1, h2, ?_⟩
  unfold bck
  simp only
  split <;> omega
/-- Block g is a timer in state t. -/
def G (w : World) (g : Nat) (t : St) : Prop := Own w g 43 #[.bool t.any, .int .i64 t.s, .int .i64 t.v, .int .i64 t.back]
theorem G.cell {w : World} {g : Nat} {s : St} (h : G w g s) : w.cell? ⟨g, 0, none⟩ = some (.bool s.any) ∧ w.cell? ⟨g, 1, none⟩ = some (.int .i64 s.s) ∧ w.cell? ⟨g, 2, none⟩ = some (.int .i64 s.v) ∧ w.cell? ⟨g, 3, none⟩ = some (.int .i64 s.back) :=
  ⟨Own.cell h 0, Own.cell h 1, Own.cell h 2, Own.cell h 3⟩
def s0 : St := ⟨false, 0, 0, 0⟩
theorem s0_ok : s0.ok := ⟨by simp [s0], by simp [s0], by simp [s0]⟩
theorem new_any (w : World) : Calls Try.prog 7 #[] w fun e w' => e = .returned (.pointer (some ⟨w.heap.size, 0, none⟩)) ∧ w.alloc (.cells #[.bool false, .int .i64 0, .int .i64 0, .int .i64 0] 43) = w' := by
  go_enter Try.func7, Try.ntmps7
  go_wp2
  go_ret
  exact ⟨rfl, rfl⟩
theorem G_new (w : World) : G (w.alloc (.cells #[.bool false, .int .i64 0, .int .i64 0, .int .i64 0] 43)) w.heap.size s0 := Own.new w _ _
def TkPost (g : Nat) (c : Nat) (s : St) (w : World) (e : Ending) (w' : World) : Prop := e = .returned (.int .i64 c) ∧ G w' g s ∧ w.grownBy w' (some g)
def BkPost (g : Nat) (s : St) (w : World) (e : Ending) (w' : World) : Prop := e = .returned (.tuple #[]) ∧ G w' g s ∧ w.grownBy w' (some g)
theorem g_eq {w : World} {g : Nat} {cs : Array Value} (h : Own w g 43 cs) {a : Bool} {t x y : Int} (hc : cs = #[.bool a, .int .i64 t, .int .i64 x, .int .i64 y]) {T X Y : Nat} (ht : t = T) (hx : x = X) (hy : y = Y) : G w g ⟨a, T, X, Y⟩ := by
  subst hc ht hx hy
  exact h
set_option maxHeartbeats 400000 in
theorem back_any (g : Nat) (t : St) (w : World) (hg : G w g t) (hk : t.ok) : Calls Try.prog 9 #[.pointer (some ⟨g, 0, none⟩)] w (BkPost g (bck t) w) := by
  obtain ⟨any, s, v, back⟩ := t
  obtain ⟨c0, c1, c2, c3⟩ := hg.cell
  obtain ⟨k1, k2, k3⟩ := hk
  have f3 := Own.frozen hg 3
  have HG := Lib.hid hg
  clear hg
  simp only at c0 c1 c2 c3 k1 k2 k3
  unfold bck
  simp only
  by_cases h : back < 5
  · rw [if_pos h]
    have h' : (back : Int) < 5 := by omega
    go_enter Try.func9, Try.ntmps9
    go_wp2
    go_end0
    exact ⟨rfl, g_eq (Own.store HG.out 3 _) rfl rfl rfl (by omega), turn_store (turn_refl _ _) 3 _⟩
  · rw [if_neg h]
    have h' : ¬ (back : Int) < 5 := by omega
    go_enter Try.func9, Try.ntmps9
    go_wp2
    go_end0
    exact ⟨rfl, HG.out, turn_refl _ _⟩
set_option maxHeartbeats 400000 in
theorem sample_no (g : Nat) (t : St) (x : Int) (w : World) (hg : G w g t) (hx : x < 0 ∨ 10000 < x) : Calls Try.prog 12 #[.pointer (some ⟨g, 0, none⟩), .int .i64 x] w (TkPost g 1 t w) := by
  have HG := Lib.hid hg
  clear hg
  rcases hx with hx | hx
  · go_enter Try.func12, Try.ntmps12
    go_wp2
    go_ret
    exact ⟨rfl, HG.out, turn_refl _ _⟩
  · have h0 : 0 ≤ x := by omega
    go_enter Try.func12, Try.ntmps12
    go_wp2
    go_ret
    exact ⟨rfl, HG.out, turn_refl _ _⟩
set_option maxRecDepth 10000 in
set_option maxHeartbeats 1000000 in
theorem sample_yes (g : Nat) (t : St) (x : Nat) (w : World) (hg : G w g t) (hk : t.ok) (hx : x ≤ 10000) : Calls Try.prog 12 #[.pointer (some ⟨g, 0, none⟩), .int .i64 x] w (TkPost g 0 (smp t x) w) := by
  obtain ⟨any, s, v, back⟩ := t
  obtain ⟨c0, c1, c2, c3⟩ := hg.cell
  obtain ⟨k1, k2, k3⟩ := hk
  have f0 := Own.frozen hg 0
  have f1 := Own.frozen hg 1
  have f2 := Own.frozen hg 2
  have f3 := Own.frozen hg 3
  have HG := Lib.hid hg
  clear hg
  simp only at c0 c1 c2 c3 k1 k2 k3
  cases any with
  | false =>
    go_enter Try.func12, Try.ntmps12
    go_wp2
    go_ret
    exact ⟨rfl, g_eq ((((Own.store HG.out 3 _).store 0 _).store 1 _).store 2 _) rfl (by omega) (by omega) rfl, turn_store (turn_store (turn_store (turn_store (turn_refl _ _) 3 _) 0 _) 1 _) 2 _⟩
  | true =>
    obtain ⟨q, hq⟩ : ∃ q : Nat, q = s / 8 := ⟨_, rfl⟩
    obtain ⟨r, hr⟩ : ∃ r : Nat, r = v / 4 := ⟨_, rfl⟩
    have hqi : (s : Int) / 8 = q := by omega
    have hri : (v : Int) / 4 = r := by omega
    have hq' : q ≤ 10001 := by omega
    have hr' : r ≤ 10001 := by omega
    have hqs : q ≤ s := by omega
    have hrv : r ≤ v := by omega
    have HU : Hid (smp ⟨true, s, v, back⟩ x = ⟨true, s - q + x, v - r + ((x - q) + (q - x)), 0⟩) := by rw [hq, hr]; rfl
    clear hq hr
    by_cases hd : q ≤ x
    · have hd' : (q : Int) ≤ x := by omega
      go_enter Try.func12, Try.ntmps12
      go_wp2
      refine wp_region_bits [(0, true), (1, true), (2, true), (3, true), (4, true), (5, true), (6, true), (7, true), (8, true), (9, true), (10, true), (11, true), (12, true), (13, true), (14, true), (15, true), (16, true), (17, false)] [17] (by kernel_rfl) (by kernel_rfl) (fun c a d v w h => by cases d <;> exact h) ?_
      simp only [bits_, bitOf, List.getElem?_cons_zero, List.getElem?_cons_succ, List.contains_nil, List.contains_cons, Nat.reduceBEq, Bool.or_false]
      repeat (first
        | (refine bits_take (v := ?_) (by rfl) ?_ ?_; rotate_left; (· intro w' hS; go_simp; (repeat (rw [hS.at_]; rotate_left; (· go_simp); go_simp)); (try (go_ints; try go_simp)); with_reducible rfl); (try simp only [Act.put, List.setIfInBounds_toArray, List.set_cons_zero, List.set_cons_succ]))
        | (refine bits_skip (by rfl) ?_; (try simp only [Act.put, List.setIfInBounds_toArray, List.set_cons_zero, List.set_cons_succ]))
        | (refine bits_pass_tail (by rfl) ?_; (try simp only [Act.put, List.setIfInBounds_toArray, List.set_cons_zero, List.set_cons_succ]))
        | (refine bits_tail (by rfl) (fun K hK => ?_); go_simp; (try go_ints); (first | go_at_K); refine hK _ _ ?_; clear hK K; (try simp only [Act.put, List.setIfInBounds_toArray, List.set_cons_zero, List.set_cons_succ]))
        | (refine bits_pass (by rfl) ?_ ?_; (· repeat (first | (with_reducible (first | exact Keep.refl _ | refine Keep.left _ ?_ | refine Keep.drew ?_ | refine Keep.drewN ?_ _ | refine Keep.alloc ?_ _)) | (refine Keep.below ?_ (by assumption)))); (try simp only [Act.put, List.setIfInBounds_toArray, List.set_cons_zero, List.set_cons_succ]))
        | (refine bits_eff (by rfl) (fun K hK => ?_); go_simp; (try go_ints); (first | go_at_K); refine hK _ _ ?_ ?_; (· repeat (first | (with_reducible (first | exact Keep.refl _ | refine Keep.left _ ?_ | refine Keep.drew ?_ | refine Keep.drewN ?_ _ | refine Keep.alloc ?_ _)) | (refine Keep.below ?_ (by assumption)))); clear hK K; (try simp only [Act.put, List.setIfInBounds_toArray, List.set_cons_zero, List.set_cons_succ])))
      refine bits_nil ?_
      go_wp2
      go_ret
      rw [HU.out]
      exact ⟨rfl, g_eq ((((Own.store HG.out 3 _).store 2 _).store 1 _).draws 1) rfl (by omega) (by omega) rfl, turn_draws (turn_store (turn_store (turn_store (turn_refl _ _) 3 _) 2 _) 1 _) 1⟩
    · have hd' : (x : Int) - (q : Int) < -((x : Int) - (q : Int)) := by omega
      go_enter Try.func12, Try.ntmps12
      go_wp2
      refine wp_region_bits [(0, true), (1, true), (2, true), (3, true), (4, true), (5, true), (6, true), (7, true), (8, true), (9, true), (10, true), (11, true), (12, true), (13, true), (14, true), (15, true), (16, true), (17, false)] [17] (by kernel_rfl) (by kernel_rfl) (fun c a d v w h => by cases d <;> exact h) ?_
      simp only [bits_, bitOf, List.getElem?_cons_zero, List.getElem?_cons_succ, List.contains_nil, List.contains_cons, Nat.reduceBEq, Bool.or_false]
      repeat (first
        | (refine bits_take (v := ?_) (by rfl) ?_ ?_; rotate_left; (· intro w' hS; go_simp; (repeat (rw [hS.at_]; rotate_left; (· go_simp); go_simp)); (try (go_ints; try go_simp)); with_reducible rfl); (try simp only [Act.put, List.setIfInBounds_toArray, List.set_cons_zero, List.set_cons_succ]))
        | (refine bits_skip (by rfl) ?_; (try simp only [Act.put, List.setIfInBounds_toArray, List.set_cons_zero, List.set_cons_succ]))
        | (refine bits_pass_tail (by rfl) ?_; (try simp only [Act.put, List.setIfInBounds_toArray, List.set_cons_zero, List.set_cons_succ]))
        | (refine bits_tail (by rfl) (fun K hK => ?_); go_simp; (try go_ints); (first | go_at_K); refine hK _ _ ?_; clear hK K; (try simp only [Act.put, List.setIfInBounds_toArray, List.set_cons_zero, List.set_cons_succ]))
        | (refine bits_pass (by rfl) ?_ ?_; (· repeat (first | (with_reducible (first | exact Keep.refl _ | refine Keep.left _ ?_ | refine Keep.drew ?_ | refine Keep.drewN ?_ _ | refine Keep.alloc ?_ _)) | (refine Keep.below ?_ (by assumption)))); (try simp only [Act.put, List.setIfInBounds_toArray, List.set_cons_zero, List.set_cons_succ]))
        | (refine bits_eff (by rfl) (fun K hK => ?_); go_simp; (try go_ints); (first | go_at_K); refine hK _ _ ?_ ?_; (· repeat (first | (with_reducible (first | exact Keep.refl _ | refine Keep.left _ ?_ | refine Keep.drew ?_ | refine Keep.drewN ?_ _ | refine Keep.alloc ?_ _)) | (refine Keep.below ?_ (by assumption)))); clear hK K; (try simp only [Act.put, List.setIfInBounds_toArray, List.set_cons_zero, List.set_cons_succ])))
      refine bits_nil ?_
      go_wp2
      go_ret
      rw [HU.out]
      exact ⟨rfl, g_eq ((((Own.store HG.out 3 _).store 2 _).store 1 _).draws 1) rfl (by omega) (by omega) rfl, turn_draws (turn_store (turn_store (turn_store (turn_refl _ _) 3 _) 2 _) 1 _) 1⟩
theorem shl_small {m : Int} (M back : Nat) (hm : m = M) (hM : M ≤ 50010) (hb : back ≤ 5) : ∃ K : Nat, Hid (M * 2 ^ back = K) ∧ wrap64 (m * 2 ^ back) = K := by
  have h : M * 2 ^ back ≤ M * 2 ^ 5 := Nat.mul_le_mul_left _ (Nat.pow_le_pow_right (by omega) hb)
  refine ⟨_, rfl, ?_⟩
  rw [hm, show (2 : Int) ^ back = ((2 ^ back : Nat) : Int) from by rw [Int.natCast_pow]; rfl, ← Int.natCast_mul]
  generalize M * 2 ^ back = q at h
  unfold wrap64
  omega
def WtPost (c : Nat) (w : World) (e : Ending) (w' : World) : Prop := e = .returned (.int .i64 c) ∧ ∃ m, w.drewN m = w'
theorem wt_close {c : Nat} {d : Int} (h : d = c) (w : World) (m : Nat) : WtPost c w (.returned (.int .i64 d)) (w.drewN m) := by subst h; exact ⟨rfl, m, rfl⟩
set_option maxHeartbeats 1000000 in
theorem wait_any (g : Nat) (t : St) (w : World) (hg : G w g t) (hk : t.ok) : Calls Try.prog 13 #[.pointer (some ⟨g, 0, none⟩)] w (WtPost (wt t) w) := by
  obtain ⟨any, s, v, back⟩ := t
  obtain ⟨c0, c1, c2, c3⟩ := hg.cell
  obtain ⟨k1, k2, k3⟩ := hk
  clear hg
  simp only at c0 c1 c2 c3 k1 k2 k3
  cases any with
  | false =>
    obtain ⟨K, HK, hw⟩ := shl_small (m := 16) 16 back rfl (by omega) k3
    have HV : Hid (wt ⟨false, s, v, back⟩ = min (16 * 2 ^ back) 64) := rfl
    go_enter Try.func13, Try.ntmps13
    go_wp2
    all_goals
      go_ret
      rw [HV.out, HK.out]
      refine wt_close ?_ w 0
      omega
  | true =>
    obtain ⟨q, hq⟩ : ∃ q : Nat, q = s / 8 := ⟨_, rfl⟩
    have hqi : (s : Int) / 8 = q := by omega
    have hq' : q ≤ 10001 := by omega
    have HV : Hid (wt ⟨true, s, v, back⟩ = min (max (q + v) 4 * 2 ^ back) 64) := by rw [hq]; rfl
    clear hq
    by_cases hm : 4 ≤ q + v
    · obtain ⟨K, HK, hw⟩ := shl_small (m := q + v) (q + v) back (by omega) (by omega) k3
      have hm' : (4 : Int) ≤ q + v := by omega
      go_enter Try.func13, Try.ntmps13
      go_wp2
      refine wp_region_bits [(0, true), (1, true), (2, true), (3, true), (4, true), (5, true), (6, true), (7, true), (8, true), (9, true), (10, true), (11, true)] [] (by kernel_rfl) (by kernel_rfl) (fun c a d v w h => by cases d <;> exact h) ?_
      simp only [bits_, bitOf, List.getElem?_cons_zero, List.getElem?_cons_succ, List.contains_nil]
      repeat (first
        | (refine bits_take (v := ?_) (by rfl) ?_ ?_; rotate_left; (· intro w' hS; go_simp; (repeat (rw [hS.at_]; rotate_left; (· go_simp); go_simp)); (try (go_ints; try go_simp)); with_reducible rfl); (try simp only [Act.put, List.setIfInBounds_toArray, List.set_cons_zero, List.set_cons_succ]))
        | (refine bits_skip (by rfl) ?_; (try simp only [Act.put, List.setIfInBounds_toArray, List.set_cons_zero, List.set_cons_succ]))
        | (refine bits_pass (by rfl) ?_ ?_; (· repeat (first | (with_reducible (first | exact Keep.refl _ | refine Keep.left _ ?_ | refine Keep.drew ?_ | refine Keep.drewN ?_ _ | refine Keep.alloc ?_ _)) | (refine Keep.below ?_ (by assumption)))); (try simp only [Act.put, List.setIfInBounds_toArray, List.set_cons_zero, List.set_cons_succ]))
        | (refine bits_eff (by rfl) (fun K hK => ?_); go_simp; (try go_ints); (first | go_at_K); refine hK _ _ ?_ ?_; (· repeat (first | (with_reducible (first | exact Keep.refl _ | refine Keep.left _ ?_ | refine Keep.drew ?_ | refine Keep.drewN ?_ _ | refine Keep.alloc ?_ _)) | (refine Keep.below ?_ (by assumption)))); clear hK K; (try simp only [Act.put, List.setIfInBounds_toArray, List.set_cons_zero, List.set_cons_succ])))
      refine bits_nil ?_
      go_wp2
      all_goals
        go_ret
        rw [HV.out, Nat.max_eq_left hm, HK.out]
        refine wt_close ?_ w 1
        omega
    · obtain ⟨K, HK, hw⟩ := shl_small (m := 4) 4 back (by omega) (by omega) k3
      have hm' : (q : Int) + v < 4 := by omega
      go_enter Try.func13, Try.ntmps13
      go_wp2
      refine wp_region_bits [(0, true), (1, true), (2, true), (3, true), (4, true), (5, true), (6, true), (7, true), (8, true), (9, true), (10, true), (11, true)] [] (by kernel_rfl) (by kernel_rfl) (fun c a d v w h => by cases d <;> exact h) ?_
      simp only [bits_, bitOf, List.getElem?_cons_zero, List.getElem?_cons_succ, List.contains_nil]
      repeat (first
        | (refine bits_take (v := ?_) (by rfl) ?_ ?_; rotate_left; (· intro w' hS; go_simp; (repeat (rw [hS.at_]; rotate_left; (· go_simp); go_simp)); (try (go_ints; try go_simp)); with_reducible rfl); (try simp only [Act.put, List.setIfInBounds_toArray, List.set_cons_zero, List.set_cons_succ]))
        | (refine bits_skip (by rfl) ?_; (try simp only [Act.put, List.setIfInBounds_toArray, List.set_cons_zero, List.set_cons_succ]))
        | (refine bits_pass (by rfl) ?_ ?_; (· repeat (first | (with_reducible (first | exact Keep.refl _ | refine Keep.left _ ?_ | refine Keep.drew ?_ | refine Keep.drewN ?_ _ | refine Keep.alloc ?_ _)) | (refine Keep.below ?_ (by assumption)))); (try simp only [Act.put, List.setIfInBounds_toArray, List.set_cons_zero, List.set_cons_succ]))
        | (refine bits_eff (by rfl) (fun K hK => ?_); go_simp; (try go_ints); (first | go_at_K); refine hK _ _ ?_ ?_; (· repeat (first | (with_reducible (first | exact Keep.refl _ | refine Keep.left _ ?_ | refine Keep.drew ?_ | refine Keep.drewN ?_ _ | refine Keep.alloc ?_ _)) | (refine Keep.below ?_ (by assumption)))); clear hK K; (try simp only [Act.put, List.setIfInBounds_toArray, List.set_cons_zero, List.set_cons_succ])))
      refine bits_nil ?_
      go_wp2
      all_goals
        go_ret
        rw [HV.out, Nat.max_eq_right (by omega), HK.out]
        refine wt_close ?_ w 1
        omega
end Go.Proofs.Ytnnghceapkkklaa
