/- What a guard knows: the numbers that were taken. Plain arithmetic on its three numbers. -/
import Derived.Test.YtnjneljlphilnaaFixed
namespace Go.Proofs.Ytnjneljlphilnaa
open Go.RowKit

def Knows (T : Nat → Prop) (s : St) : Prop := s.ok ∧ (s.any = false → ∀ n, ¬ T n) ∧
  (s.any = true → T s.top ∧ (∀ n, T n → n ≤ s.top) ∧ ∀ i, i < 64 → i ≤ s.top → (s.seen.testBit i = true ↔ T (s.top - i)))
theorem knows_new : Knows (fun _ => False) s0 := ⟨s0_ok, fun _ _ h => h, fun h => by simp [s0] at h⟩
theorem Knows.congr {T T' : Nat → Prop} {s : St} (h : Knows T s) (k : ∀ n, T n ↔ T' n) : Knows T' s := by
  have : T = T' := funext fun n => propext (k n)
  subst this
  exact h
theorem chk_in (s : St) (n : Nat) (h : n ≤ 4611686018427387904) : chk s n = if s.any = false ∨ s.top < n then 0 else if 64 ≤ s.top - n ∨ s.seen.testBit (s.top - n) = true then 10 else 0 := if_neg (by omega)
theorem tk_eq (s : St) (n : Nat) : (chk s n ≠ 0 → tk s n = s) ∧ (chk s n = 0 → s.any = false → tk s n = ⟨true, n, 1⟩) ∧
    (chk s n = 0 → s.any = true → s.top < n → tk s n = ⟨true, n, (if 64 ≤ n - s.top then 0 else s.seen * 2 ^ (n - s.top) % 18446744073709551616) ||| 1⟩) ∧
    (chk s n = 0 → s.any = true → ¬ s.top < n → tk s n = ⟨true, s.top, s.seen ||| 2 ^ (s.top - n)⟩) := by
  unfold tk
  refine ⟨fun h => if_pos h, fun h k => ?_, fun h k l => ?_, fun h k l => ?_⟩
  · rw [if_neg (by omega), if_pos k]
  · rw [if_neg (by omega), if_neg (by simp [k]), if_pos l]
  · rw [if_neg (by omega), if_neg (by simp [k]), if_neg l]
/-- It refuses what was there, and what is too old. -/
theorem knows_chk {T : Nat → Prop} {s : St} {n : Nat} (h : Knows T s) (hn : n ≤ 4611686018427387904) : (chk s n = 0 ∨ chk s n = 10) ∧ (chk s n = 10 ↔ (T n ∨ s.any = true ∧ n + 64 ≤ s.top)) := by
  obtain ⟨_, h0, h1⟩ := h
  rw [chk_in s n hn]
  cases ha : s.any with
  | false =>
    rw [if_pos (.inl rfl)]
    refine ⟨.inl rfl, ?_⟩
    have := h0 ha n
    simp [this]
  | true =>
    obtain ⟨h2, h3, h4⟩ := h1 ha
    simp only [Bool.true_eq_false, false_or, true_and]
    by_cases h5 : s.top < n
    · rw [if_pos h5]
      refine ⟨.inl rfl, ⟨fun h => by omega, fun h => ?_⟩⟩
      rcases h with h | h
      · have := h3 n h
        omega
      · omega
    · rw [if_neg h5]
      by_cases h6 : 64 ≤ s.top - n
      · rw [if_pos (.inl h6)]
        exact ⟨.inr rfl, ⟨fun _ => .inr (by omega), fun _ => rfl⟩⟩
      · have h7 := h4 (s.top - n) (by omega) (by omega)
        rw [show s.top - (s.top - n) = n from by omega] at h7
        by_cases h8 : s.seen.testBit (s.top - n) = true
        · rw [if_pos (.inr h8)]
          exact ⟨.inr rfl, ⟨fun _ => .inl (h7.1 h8), fun _ => rfl⟩⟩
        · rw [if_neg (by intro k; rcases k with k | k; exact h6 k; exact h8 k)]
          refine ⟨.inl rfl, ⟨fun k => by omega, fun k => ?_⟩⟩
          rcases k with k | k
          · exact absurd (h7.2 k) h8
          · omega
theorem bit_one (i : Nat) : (1 : Nat).testBit i = decide (i = 0) := by
  have := Nat.testBit_two_pow (n := 0) (m := i)
  simp only [Nat.pow_zero] at this
  rw [this]
  cases i <;> simp
/-- What it takes it knows. -/
theorem knows_tk {T : Nat → Prop} {s : St} {n : Nat} (h : Knows T s) (hc : chk s n = 0) : Knows (fun m => m = n ∨ T m) (tk s n) := by
  have hk := tk_ok s n h.1
  have hn := chk_le s n hc
  have hck := (knows_chk h hn).2
  obtain ⟨_, h0, h1⟩ := h
  obtain ⟨_, t2, t3, t4⟩ := tk_eq s n
  cases ha : s.any with
  | false =>
    rw [t2 hc ha] at hk ⊢
    refine ⟨hk, fun h => by simp at h, fun _ => ⟨.inl rfl, fun m hm => ?_, fun i hi hin => ?_⟩⟩
    · rcases hm with hm | hm
      · simp only; omega
      · exact absurd hm (h0 ha m)
    · simp only at hin ⊢
      rw [bit_one]
      have h5 := h0 ha (n - i)
      simp only [h5, or_false, decide_eq_true_eq]
      omega
  | true =>
    obtain ⟨h2, h3, h4⟩ := h1 ha
    have hnot : ¬ (T n ∨ s.any = true ∧ n + 64 ≤ s.top) := fun k => by have := hck.2 k; omega
    by_cases h5 : s.top < n
    · rw [t3 hc ha h5] at hk ⊢
      refine ⟨hk, fun h => by simp at h, fun _ => ⟨.inl rfl, fun m hm => ?_, fun i hi hin => ?_⟩⟩
      · simp only
        rcases hm with hm | hm
        · omega
        · have := h3 m hm
          omega
      · simp only at hin ⊢
        rw [Nat.testBit_or, bit_one]
        by_cases hi0 : i = 0
        · subst hi0
          simp
        · rw [decide_eq_false hi0, Bool.or_false]
          have hne : ¬ n - i = n := by omega
          simp only [hne, false_or]
          by_cases h6 : 64 ≤ n - s.top
          · rw [if_pos h6, Nat.zero_testBit]
            refine ⟨fun k => by simp at k, fun k => ?_⟩
            have := h3 _ k
            omega
          · rw [if_neg h6, show (18446744073709551616 : Nat) = 2 ^ 64 from rfl, Nat.testBit_mod_two_pow, Nat.testBit_mul_two_pow, decide_eq_true hi, Bool.true_and]
            by_cases h7 : n - s.top ≤ i
            · rw [decide_eq_true h7, Bool.true_and, h4 (i - (n - s.top)) (by omega) (by omega), show s.top - (i - (n - s.top)) = n - i from by omega]
            · rw [decide_eq_false h7, Bool.false_and]
              refine ⟨fun k => by simp at k, fun k => ?_⟩
              have := h3 _ k
              omega
    · rw [t4 hc ha h5] at hk ⊢
      refine ⟨hk, fun h => by simp at h, fun _ => ⟨.inr h2, fun m hm => ?_, fun i hi hin => ?_⟩⟩
      · simp only
        rcases hm with hm | hm
        · omega
        · exact h3 m hm
      · simp only at hin ⊢
        rw [Nat.testBit_or, Nat.testBit_two_pow, Bool.or_eq_true, h4 i hi hin, decide_eq_true_eq]
        rw [show (s.top - n = i) = (s.top - i = n) from propext ⟨fun k => by omega, fun k => by omega⟩]
        exact or_comm
end Go.Proofs.Ytnjneljlphilnaa
