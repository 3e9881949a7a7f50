/- The timer: the chapter's examples, a nil timer, and how long ago a time was. -/
import Derived.Test.YtnnghceapkkklaaBase
namespace Go.Proofs.Ytnnghceapkkklaa
open Go.RowKit
attribute [local go_sem] alloc_drewN setCell_drewN


theorem sample_at {g : Nat} {t t' : St} {w : World} (hg : G w g t) (hk : t.ok) {m : Int} {n : Nat} (hm : m = n) (hn : n ≤ 10000) (ht : smp t n = t') : Calls Try.prog 12 #[.pointer (some ⟨g, 0, none⟩), .int .i64 m] w (TkPost g 0 t' w) := by
  subst hm ht
  exact sample_yes g t n w hg hk hn
theorem back_at {g : Nat} {t t' : St} {w : World} (hg : G w g t) (hk : t.ok) (ht : bck t = t') : Calls Try.prog 9 #[.pointer (some ⟨g, 0, none⟩)] w (BkPost g t' w) := by
  subst ht
  exact back_any g t w hg hk
theorem wait_at {g : Nat} {t : St} {w : World} (hg : G w g t) (hk : t.ok) {c : Nat} (ht : wt t = c) : Calls Try.prog 13 #[.pointer (some ⟨g, 0, none⟩)] w (WtPost c w) := by
  subst ht
  exact wait_any g t w hg hk
theorem since_any (a b : Nat) (w : World) (ha : a < 65536) (hb : b < 65536) : Calls Try.prog 15 #[.int .u16 a, .int .u16 b] w (WtPost ((a + 65536 - b) % 65536) w) := by
  go_enter Try.func15, Try.ntmps15
  go_wp2
  go_ret
  refine wt_close ?_ w 0
  rw [IntKind.wrap_u16]
  unfold wrap64
  omega
theorem ref_since_any (a b : Nat) (w : World) (ha : a < 65536) (hb : b < 65536) : Calls Try.prog 16 #[.int .u16 a, .int .u16 b] w (WtPost ((a + 65536 - b) % 65536) w) := by
  go_enter Try.func16, Try.ntmps16
  go_wp2
  go_ret
  refine wt_close ?_ w 0
  omega
theorem nil_back (w : World) : Calls Try.prog 9 #[.pointer none] w fun e w' => e = .returned (.tuple #[]) ∧ w = w' := by
  go_enter Try.func9, Try.ntmps9
  go_wp2
  go_end0
  exact ⟨rfl, rfl⟩
theorem nil_sample (x : Int) (w : World) : Calls Try.prog 12 #[.pointer none, .int .i64 x] w (WtPost 1 w) := by
  go_enter Try.func12, Try.ntmps12
  go_wp2
  go_ret
  exact wt_close rfl w 0
theorem nil_wait (w : World) : Calls Try.prog 13 #[.pointer none] w (WtPost 0 w) := by
  go_enter Try.func13, Try.ntmps13
  go_wp2
  go_ret
  exact wt_close rfl w 0

set_option maxHeartbeats 1000000 in
theorem fixed_any (w : World) : Calls Try.prog 8 #[] w fun e w' => e = .returned (.bool true) ∧ Below w.heap.size w w' := by
  go_enter Try.func8, Try.ntmps8
  go_wp2_with fail
  refine (new_any _).mono ?_
  rintro e w' ⟨rfl, rfl⟩
  have HG := Lib.hid (G_new w)
  go_wp2_with fail
  refine (wait_at HG.out s0_ok (c := 16) (by decide)).mono ?_
  rintro e w1 ⟨rfl, m1, rfl⟩
  go_wp2_with fail
  refine (sample_at (Own.draws HG.out m1) s0_ok (n := 10) (m := 10) rfl (by decide) (t' := ⟨true, 80, 20, 0⟩) (by kernel_rfl)).mono ?_
  rintro e w1 ⟨rfl, hg1, ht1⟩
  have G1 := Lib.hid hg1
  have T1 := Lib.hid ht1
  clear hg1 ht1
  go_wp2_with fail
  refine (wait_at G1.out ⟨by simp, by simp, by simp⟩ (c := 30) (by decide)).mono ?_
  rintro e w2 ⟨rfl, m2, rfl⟩
  go_wp2_with fail
  refine (sample_at (Own.draws G1.out m2) ⟨by simp, by simp, by simp⟩ (n := 10) (m := 10) rfl (by decide) (t' := ⟨true, 80, 15, 0⟩) (by kernel_rfl)).mono ?_
  rintro e w2 ⟨rfl, hg2, ht2⟩
  have G2 := Lib.hid hg2
  have T2 := Lib.hid ht2
  clear hg2 ht2
  go_wp2_with fail
  refine (wait_at G2.out ⟨by simp, by simp, by simp⟩ (c := 25) (by decide)).mono ?_
  rintro e w3 ⟨rfl, m3, rfl⟩
  go_wp2_with fail
  refine (back_at (Own.draws G2.out m3) ⟨by simp, by simp, by simp⟩ (t' := ⟨true, 80, 15, 1⟩) (by kernel_rfl)).mono ?_
  rintro e w3 ⟨rfl, hg3, ht3⟩
  have G3 := Lib.hid hg3
  have T3 := Lib.hid ht3
  clear hg3 ht3
  go_wp2_with fail
  refine (wait_at G3.out ⟨by simp, by simp, by simp⟩ (c := 50) (by decide)).mono ?_
  rintro e w4 ⟨rfl, m4, rfl⟩
  go_wp2_with fail
  refine (back_at (Own.draws G3.out m4) ⟨by simp, by simp, by simp⟩ (t' := ⟨true, 80, 15, 2⟩) (by kernel_rfl)).mono ?_
  rintro e w4 ⟨rfl, hg4, ht4⟩
  have G4 := Lib.hid hg4
  have T4 := Lib.hid ht4
  clear hg4 ht4
  go_wp2_with fail
  refine (wait_at G4.out ⟨by simp, by simp, by simp⟩ (c := 64) (by decide)).mono ?_
  rintro e w5 ⟨rfl, m5, rfl⟩
  go_wp2_with fail
  refine (since_any 3 65534 _ (by decide) (by decide)).mono ?_
  rintro e w5 ⟨rfl, m6, rfl⟩
  go_wp2_with fail
  go_ret
  refine ⟨rfl, ?_⟩
  have h1 := below_drewN ((Below.refl w.heap.size w).alloc (Nat.le_refl _) (.cells #[.bool false, .int .i64 0, .int .i64 0, .int .i64 0] 43)) m1
  have h2 := below_drewN (h1.grown T1.out h1.size (fun k hk => by cases hk; exact Nat.le_refl _)) m2
  have h3 := below_drewN (h2.grown T2.out h2.size (fun k hk => by cases hk; exact Nat.le_refl _)) m3
  have h4 := below_drewN (h3.grown T3.out h3.size (fun k hk => by cases hk; exact Nat.le_refl _)) m4
  have h5 := h4.grown T4.out h4.size (fun k hk => by cases hk; exact Nat.le_refl _)
  with_reducible
    first
    | exact below_drewN h5 _
    | exact below_drewN (below_drewN h5 _) _
end Go.Proofs.Ytnnghceapkkklaa
