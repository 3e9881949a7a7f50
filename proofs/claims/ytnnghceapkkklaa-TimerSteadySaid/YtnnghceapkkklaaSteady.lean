/- Behind forty samples of the same number: the walk. -/
import Derived.Test.YtnnghceapkkklaaFixed
namespace Go.Proofs.Ytnnghceapkkklaa
open Go.RowKit
attribute [local go_sem] alloc_drewN setCell_drewN


def reps (x : Nat) : Nat → St
  | 0 => s0
  | k + 1 => smp (reps x k) x
theorem reps_ok (x : Nat) (hx : x ≤ 10000) : ∀ k, (reps x k).ok
  | 0 => s0_ok
  | k + 1 => smp_ok _ _ (reps_ok x hx k) hx
theorem steady_all : ∀ x : Fin 61, 4 ≤ x.val → x.val ≤ wt (reps x.val 40) ∧ wt (reps x.val 40) ≤ x.val + 3 := by decide +kernel
theorem steady (x : Nat) (h1 : 4 ≤ x) (h2 : x ≤ 60) : ∃ c, wt (reps x 40) = c ∧ x ≤ c ∧ c ≤ x + 3 := ⟨_, rfl, steady_all ⟨x, by omega⟩ h1⟩
def SRel (x : Nat) (w : World) (k : Nat) (wr : World) : Prop := G wr w.heap.size (reps x k) ∧ Below w.heap.size w wr
set_option maxHeartbeats 1000000 in
theorem steady_walk (x : Int) (w : World) : Calls Try.prog 5 #[.int .i64 x] w fun e w' => e = .returned (.bool true) ∧ Below w.heap.size w w' := by
  have start : ∀ w2, Below (w.heap.size + 1) (w.alloc (.cells #[.bool false, .int .i64 0, .int .i64 0, .int .i64 0] 43)) w2 → Hid (G w2 w.heap.size s0 ∧ Below w.heap.size w w2) := fun w2 hb2 =>
    ⟨Own.below (G_new w) hb2 (by omega), ((Below.refl _ _).alloc (Nat.le_refl _) _).trans (hb2.mono (by omega))⟩
  have START := Lib.hid start
  clear start
  by_cases hx : x < 4 ∨ 60 < x
  · rcases hx with hx | hx
    · go_enter Try.func5, Try.ntmps5
      go_wp2_with fail
      refine (new_any _).mono ?_
      rintro e w' ⟨rfl, rfl⟩
      go_wp2_with fail
      refine (fixed_any _).mono ?_
      rintro e w2 ⟨rfl, hb2⟩
      simp only [World.size_alloc] at hb2
      have HB := START.out w2 hb2
      clear hb2 START
      go_wp2_with fail
      go_ret
      exact ⟨rfl, HB.out.2⟩
    · have hx0 : 4 ≤ x := by omega
      go_enter Try.func5, Try.ntmps5
      go_wp2_with fail
      refine (new_any _).mono ?_
      rintro e w' ⟨rfl, rfl⟩
      go_wp2_with fail
      refine (fixed_any _).mono ?_
      rintro e w2 ⟨rfl, hb2⟩
      simp only [World.size_alloc] at hb2
      have HB := START.out w2 hb2
      clear hb2 START
      go_wp2_with fail
      go_ret
      exact ⟨rfl, HB.out.2⟩
  · obtain ⟨n, rfl⟩ : ∃ n : Nat, x = n := ⟨x.toNat, by omega⟩
    have h4 : (4 : Int) ≤ n := by omega
    have h60 : (n : Int) ≤ 60 := by omega
    have h6 : n ≤ 10000 := by omega
    have HS := Lib.hid (steady n (by omega) (by omega))
    clear hx
    go_enter Try.func5, Try.ntmps5
    go_wp2_with fail
    refine (new_any _).mono ?_
    rintro e w' ⟨rfl, rfl⟩
    go_wp2_with fail
    refine (fixed_any _).mono ?_
    rintro e w2 ⟨rfl, hb2⟩
    simp only [World.size_alloc] at hb2
    have HB := START.out w2 hb2
    clear hb2 START
    go_wp2_with fail
    go_loopw [17] (fun i wr => ∃ (k : Nat), k ≤ 40 ∧ i = .int .i64 k ∧ SRel n w k wr) (fun i _ => 40 - (intOf i).toNat)
    case atStart => exact ⟨0, by omega, rfl, HB.out⟩
    case round =>
      obtain ⟨k, hk, rfl, hM⟩ := hrel
      have HR := Lib.hid hM
      clear hM HB
      by_cases hkn : k < 40
      · go_wp2_with fail
        refine (sample_at HR.out.1 (reps_ok n h6 k) (n := n) rfl h6 rfl).mono ?_
        rintro e w3 ⟨rfl, g3, t3⟩
        have HN : Hid (SRel n w (k + 1) w3) := ⟨g3, HR.out.2.grown t3 HR.out.2.size (fun k hk => by cases hk; exact Nat.le_refl _)⟩
        clear g3 t3
        go_wp2_with fail
        go_roundw
        case rel => exact ⟨k + 1, by omega, by go_num, HN.out⟩
        case measure => simp [intOf]; omega
      · obtain rfl : k = 40 := by omega
        obtain ⟨c, hc, hc1, hc2⟩ := HS.out
        have HC := Lib.hid hc
        clear hc
        have hc1' : (n : Int) ≤ c := by omega
        have hc2' : (c : Int) ≤ n + 3 := by omega
        go_wp2_with fail
        refine (wait_at HR.out.1 (reps_ok n h6 40) HC.out).mono ?_
        rintro e w3 ⟨rfl, m3, rfl⟩
        go_wp2_with fail
        refine (wait_at (Own.draws HR.out.1 m3) (reps_ok n h6 40) HC.out).mono ?_
        rintro e w4 ⟨rfl, m4, rfl⟩
        go_wp2_with fail
        go_ret
        refine ⟨rfl, ?_⟩
        have h2 := HR.out.2
        with_reducible exact below_drewN h2 _
end Go.Proofs.Ytnnghceapkkklaa
