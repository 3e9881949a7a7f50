/- Blocks known whole, and what a store or a new block leaves of them. -/
import Derived.Below
import Derived.WalkKit
import Derived.Deep.Draws
namespace Go.Proofs.YtlhcehealjdbdaaDoor
open Go.RowKit

/-- Block g is just these cells. -/
def Own (w : World) (g : Nat) (t : TypeId) (cs : Array Value) : Prop := w.heap[g]? = some (.cells cs t (0, 0))
section
variable {w w' : World} {g : Nat} {t : TypeId} {cs : Array Value}
theorem Own.lt (h : Own w g t cs) : g < w.heap.size := by
  rcases Nat.lt_or_ge g w.heap.size with k | k
  · exact k
  · unfold Own at h
    rw [Array.getElem?_eq_none k] at h
    cases h
theorem Own.cell (h : Own w g t cs) (i : Nat) : w.cell? ⟨g, i, none⟩ = cs[i]? := by
  unfold Own at h
  simp [World.cell?, h]
theorem Own.frozen (h : Own w g t cs) (i : Nat) : w.frozen? ⟨g, i, none⟩ = false := by
  unfold Own at h
  simp [World.frozen?, h]
theorem Own.new (w : World) (t : TypeId) (cs : Array Value) : Own (w.alloc (.cells cs t)) w.heap.size t cs := heap_alloc_new w _
theorem Own.draws (h : Own w g t cs) (n : Nat) : Own (w.drewN n) g t cs := h
theorem Own.alloc (h : Own w g t cs) (o : Obj) : Own (w.alloc o) g t cs := (Below.heap_alloc w o g h.lt).trans h
theorem Own.store (h : Own w g t cs) (i : Nat) (u : Value) : Own (w.setCell ⟨g, i, none⟩ u) g t (cs.setIfInBounds i u) := by
  unfold Own at *
  simp [World.setCell, Array.getElem?_modify, h]
theorem Own.other (h : Own w g t cs) {p : Addr} (hp : g ≠ p.block) (u : Value) : Own (w.setCell p u) g t cs := (Below.heap_setCell w p u g hp).trans h
theorem Own.below {B : Nat} (h : Own w g t cs) (hb : Below B w w') (hg : g < B) : Own w' g t cs := (hb.block g hg).trans h
theorem Own.grown {row : Option Nat} (h : Own w g t cs) (hb : w.grownBy w' row) (hg : some g ≠ row) : Own w' g t cs := (hb.block g h.lt hg).trans h
end

section
variable {a w : World} {g : Nat}
theorem turn_refl (w : World) (row : Option Nat) : w.grownBy w row := World.grownBy.refl w row
theorem turn_draws {row : Option Nat} (h : a.grownBy w row) (n : Nat) : a.grownBy (w.drewN n) row := ⟨h.os, h.tape, h.output, h.size, h.block⟩
theorem turn_alloc {row : Option Nat} (h : a.grownBy w row) (o : Obj) : a.grownBy (w.alloc o) row :=
  ⟨h.os, h.tape, h.output, Nat.le_trans h.size (by simp), fun i hi hne => (Below.heap_alloc w o i (Nat.lt_of_lt_of_le hi h.size)).trans (h.block i hi hne)⟩
theorem turn_store (h : a.grownBy w (some g)) (i : Nat) (u : Value) : a.grownBy (w.setCell ⟨g, i, none⟩ u) (some g) :=
  ⟨h.os, h.tape, h.output, by simpa [World.setCell] using h.size, fun k hk hne => (Below.heap_setCell w _ u k (by rintro rfl; exact hne rfl)).trans (h.block k hk hne)⟩
theorem turn_left {row : Option Nat} (h : a.grownBy w row) (n : Nat) : (a.drewN n).grownBy w row := ⟨h.os, h.tape, h.output, h.size, h.block⟩
end
end Go.Proofs.YtlhcehealjdbdaaDoor
