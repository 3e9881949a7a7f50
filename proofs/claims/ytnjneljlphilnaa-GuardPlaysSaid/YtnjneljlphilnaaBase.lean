/- The guard: what its functions compute, on a state of three numbers. -/
import Derived.Test.YtnjneljlphilnaaRows
import Derived.Test.YtnjneljlphilnaaReg
import Derived.Test.YtnjneljlphilnaaMem
import Derived.WalkKit
import Derived.WalkSpells
import Derived.WalkLawsBesides
import Derived.Lib.Hide
import Derived.Deep.Draws
namespace Go.Proofs.Ytnjneljlphilnaa
open Go.RowKit
attribute [local go_sem] alloc_drewN setCell_drewN

structure St where
  any : Bool
  top : Nat
  seen : Nat
def St.ok (s : St) : Prop := s.top ≤ 4611686018427387904 ∧ s.seen < 18446744073709551616

def chk (s : St) (n : Nat) : Nat := if 4611686018427387904 < n then 1 else if s.any = false ∨ s.top < n then 0 else if 64 ≤ s.top - n ∨ s.seen.testBit (s.top - n) = true then 10 else 0

/-- Block g is a guard in state s. -/
def G (w : World) (g : Nat) (s : St) : Prop := Own w g 49 #[.bool s.any, .int .u64 s.top, .int .u64 s.seen]
theorem G.cell {w : World} {g : Nat} {s : St} (h : G w g s) : w.cell? ⟨g, 0, none⟩ = some (.bool s.any) ∧ w.cell? ⟨g, 1, none⟩ = some (.int .u64 s.top) ∧ w.cell? ⟨g, 2, none⟩ = some (.int .u64 s.seen) :=
  ⟨Own.cell h 0, Own.cell h 1, Own.cell h 2⟩
theorem bit64 (x j : Nat) (hx : x < 18446744073709551616) : (bits .and .u64 ((x : Int) / 2 ^ j) 1 == 1) = x.testBit j := by
  rw [show (2 : Int) ^ j = ((2 ^ j : Nat) : Int) from by rw [Int.natCast_pow]; rfl, ← Int.natCast_ediv, Nat.testBit_eq_decide_div_mod_eq]
  have hl : x / 2 ^ j < 18446744073709551616 := Nat.lt_of_le_of_lt (Nat.div_le_self _ _) hx
  generalize x / 2 ^ j = q at hl
  rw [show (1 : Int) = ((1 : Nat) : Int) from rfl, u64_and_nat q 1 hl (by omega), nat_mask1]
  by_cases h : q % 2 = 1
  · rw [h]; rfl
  · rw [decide_eq_false h]; simpa using (by omega : ¬ ((q % 2 : Nat) : Int) = 1)

def CkPost (c : Nat) (w : World) (e : Ending) (w' : World) : Prop := e = .returned (.int .i64 c) ∧ ∃ m, w.drewN m = w'
theorem ck_close {c d : Nat} (h : c = d) (w : World) (m : Nat) : CkPost c w (.returned (.int .i64 d)) (w.drewN m) := by subst h; exact ⟨rfl, m, rfl⟩

set_option maxHeartbeats 400000 in
theorem check_any (g : Nat) (s : St) (n : Nat) (w : World) (hg : G w g s) (hk : s.ok) :
    Calls Try.prog 11 #[.pointer (some ⟨g, 0, none⟩), .int .u64 n] w (CkPost (chk s n) w) := by
  obtain ⟨any, top, seen⟩ := s
  obtain ⟨c0, c1, c2⟩ := hg.cell
  obtain ⟨hk1, hk2⟩ := hk
  simp only at c0 c1 c2 hk1 hk2
  by_cases h1 : 4611686018427387904 < n
  · have HC := Lib.hid (show chk ⟨any, top, seen⟩ n = 1 from if_pos h1)
    go_enter Try.func11, Try.ntmps11
    go_wp2
    go_ret
    exact ck_close HC.out w 0
  · cases any with
    | false =>
      have HC := Lib.hid (show chk ⟨false, top, seen⟩ n = 0 by unfold chk; rw [if_neg h1, if_pos (.inl rfl)])
      have h1' : n ≤ 4611686018427387904 := by omega
      go_enter Try.func11, Try.ntmps11
      go_wp2
      go_ret
      exact ck_close HC.out w 0
    | true =>
      by_cases h2 : top < n
      · have HC := Lib.hid (show chk ⟨true, top, seen⟩ n = 0 by unfold chk; rw [if_neg h1, if_pos (.inr h2)])
        have h1' : n ≤ 4611686018427387904 := by omega
        go_enter Try.func11, Try.ntmps11
        go_wp2
        go_ret
        exact ck_close HC.out w 0
      · obtain ⟨j, rfl⟩ : ∃ j, top = n + j := ⟨top - n, by omega⟩
        have h1' : n ≤ 4611686018427387904 := by omega
        have HX : Hid (chk ⟨true, n + j, seen⟩ n = if 64 ≤ j ∨ seen.testBit j = true then 10 else 0) := by
          show chk ⟨true, n + j, seen⟩ n = _
          unfold chk
          rw [if_neg h1, if_neg (by simp)]
          simp only [Nat.add_sub_cancel_left]
        have hnj : (n : Int) + (j : Int) - (n : Int) = (j : Int) := by omega
        clear h2 h1
        by_cases h3 : 64 ≤ j
        · have h3' : decide ((64 : Int) ≤ (j : Int)) = true := decide_eq_true (by omega)
          have HC := Lib.hid (HX.out.trans (if_pos (.inl h3)))
          go_enter Try.func11, Try.ntmps11
          go_wp2
          refine wp_region_bits [(0, true), (1, true), (2, true), (3, true), (4, true), (5, true), (6, true), (7, true), (8, true), (9, true), (10, true), (11, true), (12, true), (13, true), (14, true), (15, true), (16, true), (17, true), (18, true), (19, true), (20, true), (21, true), (22, true)] [] (by kernel_rfl) (by kernel_rfl) (fun c a d v w h => by cases d <;> exact h) ?_
          simp only [bits_, bitOf, List.getElem?_cons_zero, List.getElem?_cons_succ, List.contains_nil]
          repeat (first
            | (refine bits_take (v := ?_) (by rfl) ?_ ?_; rotate_left; (· intro w' hS; go_simp; (repeat (rw [hS.at_]; rotate_left; (· go_simp); go_simp)); (try (go_ints; try go_simp)); with_reducible rfl); (try simp only [Act.put, List.setIfInBounds_toArray, List.set_cons_zero, List.set_cons_succ]))
            | (refine bits_skip (by rfl) ?_; (try simp only [Act.put, List.setIfInBounds_toArray, List.set_cons_zero, List.set_cons_succ]))
            | (refine bits_pass (by rfl) ?_ ?_; (· repeat (first | (with_reducible (first | exact Keep.refl _ | refine Keep.left _ ?_ | refine Keep.drew ?_ | refine Keep.drewN ?_ _ | refine Keep.alloc ?_ _)) | (refine Keep.below ?_ (by assumption)))); (try simp only [Act.put, List.setIfInBounds_toArray, List.set_cons_zero, List.set_cons_succ]))
            | (refine bits_eff (by rfl) (fun K hK => ?_); go_simp; (try go_ints); (first | go_at_K); refine hK _ _ ?_ ?_; (· repeat (first | (with_reducible (first | exact Keep.refl _ | refine Keep.left _ ?_ | refine Keep.drew ?_ | refine Keep.drewN ?_ _ | refine Keep.alloc ?_ _)) | (refine Keep.below ?_ (by assumption)))); clear hK K; (try simp only [Act.put, List.setIfInBounds_toArray, List.set_cons_zero, List.set_cons_succ])))
          refine bits_nil ?_
          go_wp2
          go_ret
          exact ck_close HC.out w 1
        · have h3' : decide ((64 : Int) ≤ (j : Int)) = false := decide_eq_false (by omega)
          have h4 : j ≤ 64 := by omega
          have HB := Lib.hid (bit64 seen j hk2)
          cases hb : seen.testBit j with
          | true =>
            have hb' : (bits .and .u64 ((seen : Int) / 2 ^ j) 1 == 1) = true := HB.out.trans hb
            have HC := Lib.hid (HX.out.trans (if_pos (.inr hb)))
            clear hb
            go_enter Try.func11, Try.ntmps11
            go_wp2
            refine wp_region_bits [(0, true), (1, true), (2, true), (3, true), (4, true), (5, true), (6, true), (7, true), (8, true), (9, true), (10, true), (11, true), (12, true), (13, true), (14, true), (15, true), (16, true), (17, true), (18, true), (19, true), (20, true), (21, true), (22, true)] [] (by kernel_rfl) (by kernel_rfl) (fun c a d v w h => by cases d <;> exact h) ?_
            simp only [bits_, bitOf, List.getElem?_cons_zero, List.getElem?_cons_succ, List.contains_nil]
            repeat (first
              | (refine bits_take (v := ?_) (by rfl) ?_ ?_; rotate_left; (· intro w' hS; go_simp; (repeat (rw [hS.at_]; rotate_left; (· go_simp); go_simp)); (try (go_ints; try go_simp)); with_reducible rfl); (try simp only [Act.put, List.setIfInBounds_toArray, List.set_cons_zero, List.set_cons_succ]))
              | (refine bits_skip (by rfl) ?_; (try simp only [Act.put, List.setIfInBounds_toArray, List.set_cons_zero, List.set_cons_succ]))
              | (refine bits_pass (by rfl) ?_ ?_; (· repeat (first | (with_reducible (first | exact Keep.refl _ | refine Keep.left _ ?_ | refine Keep.drew ?_ | refine Keep.drewN ?_ _ | refine Keep.alloc ?_ _)) | (refine Keep.below ?_ (by assumption)))); (try simp only [Act.put, List.setIfInBounds_toArray, List.set_cons_zero, List.set_cons_succ]))
              | (refine bits_eff (by rfl) (fun K hK => ?_); go_simp; (try go_ints); (first | go_at_K); refine hK _ _ ?_ ?_; (· repeat (first | (with_reducible (first | exact Keep.refl _ | refine Keep.left _ ?_ | refine Keep.drew ?_ | refine Keep.drewN ?_ _ | refine Keep.alloc ?_ _)) | (refine Keep.below ?_ (by assumption)))); clear hK K; (try simp only [Act.put, List.setIfInBounds_toArray, List.set_cons_zero, List.set_cons_succ])))
            refine bits_nil ?_
            go_wp2
            go_ret
            exact ck_close HC.out w 1
          | false =>
            have hb' : (bits .and .u64 ((seen : Int) / 2 ^ j) 1 == 1) = false := HB.out.trans hb
            have HC := Lib.hid (HX.out.trans (if_neg (by rw [hb]; simp; omega)))
            clear hb
            go_enter Try.func11, Try.ntmps11
            go_wp2
            refine wp_region_bits [(0, true), (1, true), (2, true), (3, true), (4, true), (5, true), (6, true), (7, true), (8, true), (9, true), (10, true), (11, true), (12, true), (13, true), (14, true), (15, true), (16, true), (17, true), (18, true), (19, true), (20, true), (21, true), (22, true)] [] (by kernel_rfl) (by kernel_rfl) (fun c a d v w h => by cases d <;> exact h) ?_
            simp only [bits_, bitOf, List.getElem?_cons_zero, List.getElem?_cons_succ, List.contains_nil]
            repeat (first
              | (refine bits_take (v := ?_) (by rfl) ?_ ?_; rotate_left; (· intro w' hS; go_simp; (repeat (rw [hS.at_]; rotate_left; (· go_simp); go_simp)); (try (go_ints; try go_simp)); with_reducible rfl); (try simp only [Act.put, List.setIfInBounds_toArray, List.set_cons_zero, List.set_cons_succ]))
              | (refine bits_skip (by rfl) ?_; (try simp only [Act.put, List.setIfInBounds_toArray, List.set_cons_zero, List.set_cons_succ]))
              | (refine bits_pass (by rfl) ?_ ?_; (· repeat (first | (with_reducible (first | exact Keep.refl _ | refine Keep.left _ ?_ | refine Keep.drew ?_ | refine Keep.drewN ?_ _ | refine Keep.alloc ?_ _)) | (refine Keep.below ?_ (by assumption)))); (try simp only [Act.put, List.setIfInBounds_toArray, List.set_cons_zero, List.set_cons_succ]))
              | (refine bits_eff (by rfl) (fun K hK => ?_); go_simp; (try go_ints); (first | go_at_K); refine hK _ _ ?_ ?_; (· repeat (first | (with_reducible (first | exact Keep.refl _ | refine Keep.left _ ?_ | refine Keep.drew ?_ | refine Keep.drewN ?_ _ | refine Keep.alloc ?_ _)) | (refine Keep.below ?_ (by assumption)))); clear hK K; (try simp only [Act.put, List.setIfInBounds_toArray, List.set_cons_zero, List.set_cons_succ])))
            refine bits_nil ?_
            go_wp2
            go_ret
            exact ck_close HC.out w 1

def tk (s : St) (n : Nat) : St :=
  if chk s n ≠ 0 then s else if s.any = false then ⟨true, n, 1⟩
  else if s.top < n then ⟨true, n, (if 64 ≤ n - s.top then 0 else s.seen * 2 ^ (n - s.top) % 18446744073709551616) ||| 1⟩
  else ⟨true, s.top, s.seen ||| 2 ^ (s.top - n)⟩

def TkPost (g : Nat) (c : Nat) (s : St) (w : World) (e : Ending) (w' : World) : Prop := e = .returned (.int .i64 c) ∧ G w' g s ∧ w.grownBy w' (some g)
end Go.Proofs.Ytnjneljlphilnaa
