/- How a slice of the chapter's records reads. -/
import Derived.Test.YtdnihlfnglkjiaaInts
import Derived.WalkKit
namespace Go.Proofs.Ytdnihlfnglkjiaa
open Go.RowKit

/-- The slice's records: a bit, a text, and a slice of numbers. -/
def LOps (w : World) (a : Option Addr) (n : Nat) (F : Nat → Bool × ByteArray × Option Addr × Nat × Nat × List Nat) : Prop :=
  n ≤ 9223372036854775807 ∧ (0 < n → ∃ b off, a = some ⟨b, off, none⟩ ∧ b < w.heap.size ∧ ∀ i, i < n →
    w.cell? ⟨b, off + i * 3, none⟩ = some (.bool (F i).1) ∧ w.cell? ⟨b, off + i * 3 + 1, none⟩ = some (.string (F i).2.1) ∧ (F i).2.1.size ≤ 9223372036854775807 ∧
    w.cell? ⟨b, off + i * 3 + 2, none⟩ = some (.slice (F i).2.2.1 (F i).2.2.2.1 (F i).2.2.2.2.1) ∧ Ints .u16 w (F i).2.2.1 (F i).2.2.2.1 (F i).2.2.2.2.2 ∧ ∀ z ∈ (F i).2.2.2.2.2, z < 65536)
end Go.Proofs.Ytdnihlfnglkjiaa
