/- How a slice of integers reads. -/
import Derived.WalkKit
namespace Go.Proofs.Ytdnihlfnglkjiaa
open Go.RowKit
/-- The slice's elements are zs. -/
def Ints (k : IntKind) (w : World) (a : Option Addr) (n : Nat) (zs : List Nat) : Prop :=
  zs.length = n ∧ n ≤ 9223372036854775807 ∧ (0 < n → ∃ b off, a = some ⟨b, off, none⟩ ∧ b < w.heap.size ∧ ∀ i, i < n → w.cell? ⟨b, off + i, none⟩ = some (.int k (zs.getD i 0 : Nat)))
end Go.Proofs.Ytdnihlfnglkjiaa
