/- A nil guard takes nothing: the walk. -/
import Derived.Test.YtnjneljlphilnaaFixed
namespace Go.Proofs.Ytnjneljlphilnaa
open Go.RowKit
attribute [local go_sem] alloc_drewN setCell_drewN


set_option maxHeartbeats 400000 in
theorem nil_walk (n : Nat) (w : World) : Calls Try.prog 7 #[.int .u64 n] w fun e w' => e = .returned (.bool true) ∧ Below w.heap.size w w' := by
  go_enter Try.func7, Try.ntmps7
  go_wp2_with (first | (go_at_call 14; refine (nil_top _).mono ?_; rintro e w' ⟨rfl, m, rfl⟩) | (go_at_call 9; refine (fixed_any _).mono ?_; rintro e w1 ⟨rfl, hb1⟩) | (go_at_call 11; refine (nil_check _ _).mono ?_; rintro e w' ⟨rfl, m, rfl⟩) | (go_at_call 10; refine (nil_take _ _).mono ?_; rintro e w' ⟨rfl, m, rfl⟩))
  go_ret
  refine ⟨rfl, ?_⟩
  repeat (first | (with_reducible (first | exact Below.refl _ _ | refine below_drewN ?_ _ | refine Below.drew ?_ | refine Below.alloc ?_ (by first | omega | (simp; done) | (simp; omega)) _)) | (refine Below.trans ?_ ((by assumption : Below _ _ _).mono (by first | omega | (simp; done) | (simp; omega)))))
end Go.Proofs.Ytnjneljlphilnaa
