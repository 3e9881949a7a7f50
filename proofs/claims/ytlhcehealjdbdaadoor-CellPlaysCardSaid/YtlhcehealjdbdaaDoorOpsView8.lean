/- A row of calls that came in, read as data. -/
import Derived.Test.YtlhcehealjdbdaaDoorOpView
import Derived.Test.YtlhcehealjdbdaaDoorOps8
import Derived.WalkKit
import Derived.ProofKit
import Derived.OpenShut
import Derived.Deep.Slices
import Derived.Deep.Strs
import Derived.Deep.Fields
import Derived.ChangeSame
namespace Go.Proofs.YtlhcehealjdbdaaDoor
open Go.ChangeShapes Go.WideShapes Go.ChangeAt Go.RowKit Go.Deep
set_option linter.unusedSimpArgs false
set_option linter.unusedVariables false

def op0 : Op8 := ⟨0, 0, 0, 0, 0, 0, 0, 0⟩
section
variable {H : Type} {enc : TypeId × Value → H} {W : World} {base : Nat} {v : Value} {d : DataW H} {p : List MemPlace}
theorem view_ops8 {t : TypeId} (ht : Tryd.prog.underlying t = some (.slice 43)) (u : Value.okWide Tryd.prog W .any base t v) (h : DataW.Trod enc Tryd.prog W 0 (fun _ => true) true t v d p) :
    ∃ (a : Option Addr) (n c : Nat) (os : Nat → Op8), v = .slice a n c ∧ Ops8 W a n os ∧ ∀ i, i < n → OWf (os i) := by
  obtain ⟨a, len, cap, rfl⟩ := okWide_slice ht u
  obtain ⟨fuel, hf⟩ := h
  rcases open_slice ht hf with ⟨hcs, _⟩ | ⟨x, l, c, m, n, D, Pl, hcs, _, hl, hm, hmm, _, hx⟩
  · simp [Value.cells] at hcs
    obtain ⟨rfl, rfl, rfl⟩ := hcs
    exact ⟨_, _, _, fun _ => op0, rfl, ⟨by omega, fun h => absurd h (by omega)⟩, fun i hi => absurd hi (by omega)⟩
  · simp [Value.cells] at hcs
    obtain ⟨rfl, rfl, rfl⟩ := hcs
    simp only [if_true] at hmm
    subst hmm
    have each : ∀ i, i < len → ∃ g : Op8, (∀ j u, g.vals[j]? = some u → W.cell? ((x.add (i * 8)).add j) = some u) ∧ OWf g := by
      intro i hi
      obtain ⟨cs', h1, h2⟩ := hx i (by omega)
      rw [gcO] at h1
      obtain ⟨g, rfl, hg⟩ := open_op h2
      obtain ⟨_, _, hat⟩ := World.cells?_some h1
      exact ⟨g, fun j u hj => by
        have hj6 : j < 8 := (List.getElem?_eq_some_iff.1 hj).1
        rw [hat j hj6, hj], hg⟩
    have : Inhabited Op8 := ⟨op0⟩
    obtain ⟨f, hf'⟩ := gchoose_lt each
    refine ⟨_, _, _, f, rfl, ⟨by unfold maxLen at hm; omega, fun h0 => ?_⟩, fun i hi => (hf' i hi).2⟩
    obtain ⟨b, off, spot⟩ := x
    have h1 := (hf' 0 h0).1 0 _ rfl
    have hspot : spot = none := by simpa [Addr.add] using World.cell?_spot h1
    subst hspot
    refine ⟨b, off, rfl, Keep.lt (p := ⟨b, off, none⟩) (by simp [Addr.add] at h1; rw [h1]; rfl), fun i hi => ?_⟩
    have key := (hf' i hi).1
    have k2 : ∀ j u, (f i).vals[j]? = some u → W.cell? ⟨b, off + i * 8 + j, none⟩ = some u := fun j u hj => by
      have := key j u hj
      rwa [add_plain, add_plain] at this
    exact ⟨k2 0 _ rfl, k2 1 _ rfl, k2 2 _ rfl, k2 3 _ rfl, k2 4 _ rfl, k2 5 _ rfl, k2 6 _ rfl, k2 7 _ rfl⟩
end
end Go.Proofs.YtlhcehealjdbdaaDoor
