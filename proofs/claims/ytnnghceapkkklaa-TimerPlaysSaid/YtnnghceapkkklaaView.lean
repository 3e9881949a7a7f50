/- Numbers that came in. -/
import Derived.WalkKit
import Derived.ProofKit
import Derived.OpenShut
namespace Go.Proofs.Ytnnghceapkkklaa
open Go.ChangeShapes Go.WideShapes Go.ChangeAt Go.RowKit
section
variable {H : Type} {enc : TypeId × Value → H} {P : Program} {W : World} {base : Nat} {v : Value} {d : DataW H} {p : List MemPlace}
theorem view_i64 {t : TypeId} (ht : P.underlying t = some (.int .i64)) (u : Value.okWide P W .any base t v) (h : DataW.Trod enc P W 0 (fun _ => true) true t v d p) :
    ∃ x : Int, v = .int .i64 x ∧ -9223372036854775808 ≤ x ∧ x ≤ 9223372036854775807 := by
  obtain ⟨n, rfl, _, _, wn⟩ := open_int ht u h
  refine ⟨n, rfl, ?_⟩
  simp [Lit.wf, IntKind.min, IntKind.max, IntKind.signed, IntKind.bits] at wn
  omega
theorem view_u16 {t : TypeId} (ht : P.underlying t = some (.int .u16)) (u : Value.okWide P W .any base t v) (h : DataW.Trod enc P W 0 (fun _ => true) true t v d p) :
    ∃ f : Nat, v = .int .u16 f ∧ f < 65536 := by
  obtain ⟨n, rfl, _, _, wn⟩ := open_int ht u h
  simp [Lit.wf, IntKind.min, IntKind.max, IntKind.signed, IntKind.bits] at wn
  exact ⟨n.toNat, by rw [Int.toNat_of_nonneg (by omega)], by omega⟩
end
end Go.Proofs.Ytnnghceapkkklaa
