/- How a slice of records of a bit and a number reads. -/
import Derived.WalkKit
namespace Go.Proofs.Ytnjneljlphilnaa
open Go.RowKit
/-- The slice's records are (bs i, xs i). -/
def Ops (k : IntKind) (w : World) (a : Option Addr) (n : Nat) (bs : Nat → Bool) (xs : Nat → Int) : Prop :=
  n ≤ 9223372036854775807 ∧ (0 < n → ∃ b off, a = some ⟨b, off, none⟩ ∧ b < w.heap.size ∧ ∀ i, i < n → w.cell? ⟨b, off + i * 2, none⟩ = some (.bool (bs i)) ∧ w.cell? ⟨b, off + i * 2 + 1, none⟩ = some (.int k (xs i)))
end Go.Proofs.Ytnjneljlphilnaa
