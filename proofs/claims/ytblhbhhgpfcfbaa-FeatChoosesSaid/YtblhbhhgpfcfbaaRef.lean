/- What the document's answer for the features computes. -/
import Derived.Test.YtblhbhhgpfcfbaaPlain
namespace Go.Proofs.Ytblhbhhgpfcfbaa
open Go.RowKit
attribute [local go_sem] alloc_drewN setCell_drewN


def sinceN (k : Nat) : Int := if k = 0 ∨ k = 4 then 1 else if k = 1 ∨ k = 5 then 2 else if k = 2 ∨ k = 3 then 3 else 0
theorem since_any (k : Nat) (w : World) (h : k ≤ 32) : Calls Try.prog 14 #[.int .i64 k] w fun e w' => e = .returned (.int .i64 (sinceN k)) ∧ w = w' := by
  by_cases h6 : k < 6
  · have hk : k = 0 ∨ k = 1 ∨ k = 2 ∨ k = 3 ∨ k = 4 ∨ k = 5 := by omega
    rcases hk with rfl | rfl | rfl | rfl | rfl | rfl
    all_goals
      go_enter Try.func14, Try.ntmps14
      go_wp2
      go_ret
      exact ⟨rfl, rfl⟩
  · have hs : sinceN k = 0 := by unfold sinceN; rw [if_neg (by omega), if_neg (by omega), if_neg (by omega)]
    have HS := Lib.hid hs
    clear hs
    have h6' : 6 ≤ k := by omega
    go_enter Try.func14, Try.ntmps14
    go_wp2
    go_ret
    rw [HS.out]
    exact ⟨rfl, rfl⟩

/-- The bits below k. -/
def low (N k : Nat) : Nat := N % 2 ^ k
theorem low_zero (N : Nat) : low N 0 = 0 := by simp [low, Nat.mod_one]
theorem low_all {N : Nat} (h : N < 4294967296) : low N 32 = N := Nat.mod_eq_of_lt h
theorem low_no {N k : Nat} (h : N.testBit k = false) : low N (k + 1) = low N k := by
  have h1 : ¬ N / 2 ^ k % 2 = 1 := by rw [Nat.testBit_eq_decide_div_mod_eq] at h; simpa using h
  unfold low
  rw [Nat.mod_pow_succ, show N / 2 ^ k % 2 = 0 from by omega, Nat.mul_zero, Nat.add_zero]
theorem low_yes {N k : Nat} (hk : k < 32) (h : N.testBit k = true) : ((low N (k + 1) : Nat) : Int) = bits .or .u32 (low N k : Nat) (2 ^ k % 4294967296) := by
  have h1 : N / 2 ^ k % 2 = 1 := by rw [Nat.testBit_eq_decide_div_mod_eq] at h; simpa using h
  have hp : 2 ^ k < 4294967296 := Nat.pow_lt_pow_right (by omega) hk
  have hl : low N k < 2 ^ k := Nat.mod_lt _ (Nat.two_pow_pos k)
  have hc : ((2 : Int) ^ k % 4294967296) = ((2 ^ k : Nat) : Int) := by
    have e : (2 : Int) ^ k = ((2 ^ k : Nat) : Int) := by rw [Int.natCast_pow]; rfl
    rw [e]
    generalize 2 ^ k = q at hp
    omega
  rw [hc, u32_or_nat _ _ (by omega) hp, Nat.or_comm, nat_join k (2 ^ k) (low N k) (Nat.mod_self _) hl]
  unfold low
  rw [Nat.mod_pow_succ, h1]
  omega
theorem bit_of (x k : Nat) : ((((x : Int) / 2 ^ k).tmod 2) == 1) = x.testBit k := by
  rw [show (2 : Int) ^ k = ((2 ^ k : Nat) : Int) from by rw [Int.natCast_pow]; rfl, ← Int.natCast_ediv, Nat.testBit_eq_decide_div_mod_eq]
  have e : (((x / 2 ^ k : Nat) : Int).tmod 2) = ((x / 2 ^ k % 2 : Nat) : Int) := by
    generalize x / 2 ^ k = q
    rw [Int.tmod_eq_emod_of_nonneg (Int.natCast_nonneg _)]
    omega
  rw [e]
  generalize x / 2 ^ k % 2 = r
  by_cases h : r = 1
  · subst h; rfl
  · rw [decide_eq_false h]; simpa using (by omega : ¬ (r : Int) = 1)
theorem ceil_bit (v : Int) (k : Nat) (h1 : 1 ≤ v) (h3 : v ≤ 3) (hk : k < 32) : (ceilN v).testBit k = (decide (0 < sinceN k) && decide (sinceN k ≤ v)) := by
  have hv : v = 1 ∨ v = 2 ∨ v = 3 := by omega
  have key : ∀ j : Fin 32, ((17 : Nat).testBit j.1 = (decide (0 < sinceN j.1) && decide (sinceN j.1 ≤ 1))) ∧ ((51 : Nat).testBit j.1 = (decide (0 < sinceN j.1) && decide (sinceN j.1 ≤ 2))) ∧ ((63 : Nat).testBit j.1 = (decide (0 < sinceN j.1) && decide (sinceN j.1 ≤ 3))) := by decide
  have hj := key ⟨k, hk⟩
  rcases hv with rfl | rfl | rfl
  · exact hj.1
  · exact hj.2.1
  · exact hj.2.2

set_option maxHeartbeats 400000 in
theorem rceil_any (v : Int) (w : World) (h1 : 1 ≤ v) (h3 : v ≤ 3) : Calls Try.prog 13 #[.int .i64 v] w fun e w' => e = .returned (.int .u32 (ceilN v)) ∧ w = w' := by
  go_enter Try.func13, Try.ntmps13
  go_wp2
  go_loop [3, 4] (fun n i => ∃ k : Nat, k ≤ 32 ∧ i = .int .i64 k ∧ n = .int .u32 (low (ceilN v) k : Nat)) (fun _ i => 32 - (intOf i).toNat)
  case atStart => exact ⟨0, by omega, rfl, by rw [low_zero]; rfl⟩
  case round =>
    obtain ⟨k, hk, rfl, rfl⟩ := hrel
    by_cases hlt : k < 32
    · have HB := Lib.hid (ceil_bit v k h1 h3 hlt)
      have hc : decide (0 < sinceN k) = false ∨ (decide (0 < sinceN k) = true ∧ decide (sinceN k ≤ v) = false) ∨ (decide (0 < sinceN k) = true ∧ decide (sinceN k ≤ v) = true) := by
        cases decide (0 < sinceN k) <;> cases decide (sinceN k ≤ v) <;> simp
      rcases hc with c1 | ⟨c1, c2⟩ | ⟨c1, c2⟩
      · have HL := Lib.hid (low_no (N := ceilN v) (k := k) (by rw [HB.out, c1]; rfl))
        go_wp2_with (first | (go_at_call 14; refine (since_any _ _ (by omega)).mono ?_; rintro e w5 ⟨rfl, rfl⟩))
        go_round
        case rel => exact ⟨k + 1, by omega, by go_num, by rw [HL.out]⟩
        case measure => simp [intOf]; omega
      · have HL := Lib.hid (low_no (N := ceilN v) (k := k) (by rw [HB.out, c1, c2]; rfl))
        go_wp2_with (first | (go_at_call 14; refine (since_any _ _ (by omega)).mono ?_; rintro e w5 ⟨rfl, rfl⟩))
        go_round
        case rel => exact ⟨k + 1, by omega, by go_num, by rw [HL.out]⟩
        case measure => simp [intOf]; omega
      · have HL := Lib.hid (low_yes (N := ceilN v) (k := k) hlt (by rw [HB.out, c1, c2]; rfl))
        go_wp2_with (first | (go_at_call 14; refine (since_any _ _ (by omega)).mono ?_; rintro e w5 ⟨rfl, rfl⟩))
        go_round
        case rel => exact ⟨k + 1, by omega, by go_num, by rw [HL.out]⟩
        case measure => simp [intOf]; omega
    · obtain rfl : k = 32 := by omega
      have HL := Lib.hid (low_all (ceilN_lt v))
      go_wp2
      go_ret
      rw [HL.out]
      exact ⟨rfl, rfl⟩

theorem choice_bit {am bm : Int} {x y k : Nat} (h : 1 ≤ am ∧ 1 ≤ bm ∧ am ≤ 3 ∧ bm ≤ 3) (hk : k < 32) :
    (chFN am bm x y).testBit k = (x.testBit k && y.testBit k && (decide (0 < sinceN k) && decide (sinceN k ≤ min am bm))) := by
  rw [chFN_yes x y h, Nat.testBit_and, Nat.testBit_and, ceil_bit _ _ (by omega) (by omega) hk]
/-- The ways through the choice's round. -/
def RWay (x y k : Nat) (v : Int) : Prop :=
  ((((x : Int) / 2 ^ k).tmod 2) == 1) = false ∨ (((((x : Int) / 2 ^ k).tmod 2) == 1) = true ∧ ((((y : Int) / 2 ^ k).tmod 2) == 1) = false) ∨
  (((((x : Int) / 2 ^ k).tmod 2) == 1) = true ∧ ((((y : Int) / 2 ^ k).tmod 2) == 1) = true ∧ decide (0 < sinceN k) = false) ∨
  (((((x : Int) / 2 ^ k).tmod 2) == 1) = true ∧ ((((y : Int) / 2 ^ k).tmod 2) == 1) = true ∧ decide (0 < sinceN k) = true ∧ decide (sinceN k ≤ v) = false)
def RAll (x y k : Nat) (v : Int) : Prop := ((((x : Int) / 2 ^ k).tmod 2) == 1) = true ∧ ((((y : Int) / 2 ^ k).tmod 2) == 1) = true ∧ decide (0 < sinceN k) = true ∧ decide (sinceN k ≤ v) = true
theorem r_ways (x y k : Nat) (v : Int) : RWay x y k v ∨ RAll x y k v := by
  unfold RWay RAll
  cases ((((x : Int) / 2 ^ k).tmod 2) == 1) <;> cases ((((y : Int) / 2 ^ k).tmod 2) == 1) <;> cases decide (0 < sinceN k) <;> cases decide (sinceN k ≤ v) <;> simp
theorem choice_no {am bm : Int} {x y k : Nat} (h : 1 ≤ am ∧ 1 ≤ bm ∧ am ≤ 3 ∧ bm ≤ 3) (hk : k < 32) (r : RWay x y k (min am bm)) : low (chFN am bm x y) (k + 1) = low (chFN am bm x y) k := by
  refine low_no ?_
  rw [choice_bit h hk, ← bit_of x k, ← bit_of y k]
  rcases r with c1 | ⟨c1, c2⟩ | ⟨c1, c2, c3⟩ | ⟨c1, c2, c3, c4⟩ <;> simp [*]
theorem choice_yes {am bm : Int} {x y k : Nat} (h : 1 ≤ am ∧ 1 ≤ bm ∧ am ≤ 3 ∧ bm ≤ 3) (hk : k < 32) (r : RAll x y k (min am bm)) :
    ((low (chFN am bm x y) (k + 1) : Nat) : Int) = bits .or .u32 (low (chFN am bm x y) k : Nat) (2 ^ k % 4294967296) := by
  refine low_yes hk ?_
  rw [choice_bit h hk, ← bit_of x k, ← bit_of y k]
  obtain ⟨c1, c2, c3, c4⟩ := r
  simp [*]
end Go.Proofs.Ytblhbhhgpfcfbaa
