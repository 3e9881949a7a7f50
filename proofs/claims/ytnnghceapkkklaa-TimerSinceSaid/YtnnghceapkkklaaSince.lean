/- How long ago a time was: the walk. -/
import Derived.Test.YtnnghceapkkklaaFixed
namespace Go.Proofs.Ytnnghceapkkklaa
open Go.RowKit
attribute [local go_sem] alloc_drewN setCell_drewN


set_option maxHeartbeats 1000000 in
theorem since_walk (now thn : Nat) (x : Int) (w : World) (ha : now < 65536) (hb : thn < 65536) : Calls Try.prog 6 #[.int .u16 now, .int .u16 thn, .int .i64 x] w fun e w' => e = .returned (.bool true) ∧ Below w.heap.size w w' := by
  obtain ⟨d, hd⟩ : ∃ d : Nat, d = (now + 65536 - thn) % 65536 := ⟨_, rfl⟩
  have h1 := fun w => since_any now thn w ha hb
  have h2 := fun w => ref_since_any now thn w ha hb
  rw [← hd] at h1 h2
  have hdl : d < 65536 := by omega
  have h3 : IntKind.u16.wrap ((thn : Int) + (d : Int)) = (now : Int) := by
    rw [IntKind.wrap_u16]
    omega
  have H1 := Lib.hid h1
  have H2 := Lib.hid h2
  clear h1 h2 hd
  go_enter Try.func6, Try.ntmps6
  go_wp2_with fail
  refine (nil_back _).mono ?_
  rintro e w' ⟨rfl, rfl⟩
  go_wp2_with fail
  refine (H1.out _).mono ?_
  rintro e w1 ⟨rfl, m1, rfl⟩
  go_wp2_with fail
  refine (fixed_any _).mono ?_
  rintro e w2 ⟨rfl, hb2⟩
  have HB : Hid (Below w.heap.size (w.drewN m1) w2) := hb2
  clear hb2
  go_wp2_with fail
  refine (H2.out _).mono ?_
  rintro e w3 ⟨rfl, m3, rfl⟩
  go_wp2_with fail
  refine (nil_sample _ _).mono ?_
  rintro e w4 ⟨rfl, m4, rfl⟩
  go_wp2_with fail
  refine (nil_wait _).mono ?_
  rintro e w5 ⟨rfl, m5, rfl⟩
  go_wp2_with fail
  go_ret
  refine ⟨rfl, ?_⟩
  with_reducible exact below_drewN (below_drewN (Below.refl w.heap.size w) m1 |>.trans HB.out) _
end Go.Proofs.Ytnnghceapkkklaa
