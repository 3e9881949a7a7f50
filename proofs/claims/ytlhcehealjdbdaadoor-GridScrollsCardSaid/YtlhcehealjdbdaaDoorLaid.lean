/- From the cards' condition, that the two tables read as the program's text lays them, to their cells; and a start that meets it. -/
import Derived.Test.YtlhcehealjdbdaaDoorRows
import Derived.Test.YtlhcehealjdbdaaDoorWidth
import Derived.ProofKit
import Derived.LaidMore
import Derived.OpenShut
import Derived.MakeChecks
import Derived.Stop.Joined
import Derived.LaidOnce
namespace Go.Proofs.YtlhcehealjdbdaaDoor
open Go.ChangeShapes Go.WideShapes Go.ChangeAt Go.WideMaps Go.WideElems Go.RowKit
theorem gNone : Tryd.prog.globalNamed "spyglass/utf.none" = some 0 := by kernel_rfl
theorem gWide : Tryd.prog.globalNamed "spyglass/utf.wide" = some 1 := by kernel_rfl
theorem tNone : (Tryd.prog.globals[0]?).map (·.type) = some 88 := by kernel_rfl
theorem tWide : (Tryd.prog.globals[1]?).map (·.type) = some 89 := by kernel_rfl
theorem tc87 : Tryd.prog.cellsOf 87 = 2 := by kernel_rfl
theorem tc21 : Tryd.prog.cellsOf 21 = 1 := by kernel_rfl
def laid2 : List (String × DataW Unit) := [("spyglass/utf.none", Rows.laid_spyglass_utf_none), ("spyglass/utf.wide", Rows.laid_spyglass_utf_wide)]
def pairD (p : Int × Int) : DataW Unit := .agg [.lit (.int .i32 p.1), .lit (.int .i32 p.2)]
theorem pair_cells {enc : TypeId × Value → Unit} {w : World} {base : Nat} {spare : Nat → Bool} {held : Bool} {m : Nat} {cs : List Value} {p : Int × Int} {q : List MemPlace} (h : DataW.trod enc Tryd.prog w base spare held m 87 cs = some (pairD p, q)) : cs = [.int .i32 p.1, .int .i32 p.2] := by
  obtain ⟨ys, m1, rfl, hx, hlen, hn, hel⟩ := DataW.trod_array Tryd.underlying87 h
  have hc : cs.length = 2 := by rw [hlen]; kernel_rfl
  simp only [Prod.mk.injEq, pairD, DataW.agg.injEq] at hx
  match ys, hn, hx, cs, hc, hel with
  | [y0, y1], _, hx, [c0, c1], _, hel =>
    have h0 : DataW.trod enc Tryd.prog w base spare held m1 21 [c0] = some y0 := by simpa [tc21] using hel 0 (by decide)
    have h1 : DataW.trod enc Tryd.prog w base spare held m1 21 [c1] = some y1 := by simpa [tc21] using hel 1 (by decide)
    simp only [List.map_cons, List.map_nil, List.cons.injEq, and_true] at hx
    obtain ⟨a, e0, f0, _⟩ := DataW.trod_int Tryd.underlying21 h0
    obtain ⟨b, e1, f1, _⟩ := DataW.trod_int Tryd.underlying21 h1
    rw [f0, f1] at hx
    simp only [DataW.lit.injEq, Lit.int.injEq, true_and] at hx
    obtain ⟨⟨h2, h3⟩, _⟩ := hx
    simp only [List.cons.injEq, and_true] at e0 e1
    rw [e0, e1, ← h2, ← h3]
theorem flatT_at : ∀ {T : List (Int × Int)} {i : Nat} {p : Int × Int}, T[i]? = some p → (flatT T)[i * 2]? = some (.int .i32 p.1) ∧ (flatT T)[i * 2 + 1]? = some (.int .i32 p.2)
  | [], i, p, h => by simp at h
  | t :: T, 0, p, h => by simp at h; subst h; exact ⟨rfl, rfl⟩
  | t :: T, i + 1, p, h => by
    have := flatT_at (T := T) (i := i) (p := p) (by simpa using h)
    refine ⟨?_, ?_⟩
    · rw [show (i + 1) * 2 = i * 2 + 1 + 1 from by omega]; exact this.1
    · rw [show (i + 1) * 2 + 1 = i * 2 + 1 + 1 + 1 from by omega]; exact this.2
theorem flatT_len : ∀ T : List (Int × Int), (flatT T).length = T.length * 2
  | [] => rfl
  | t :: T => by simp [flatT, flatT_len T]; omega
theorem table_cells {enc : TypeId × Value → Unit} {w : World} {base : Nat} {spare : Nat → Bool} {held : Bool} {m t n : Nat} {cs : List Value} {T : List (Int × Int)} {q : List MemPlace} (ht : Tryd.prog.underlying t = some (.array n 87))
    (h : DataW.trod enc Tryd.prog w base spare held m t cs = some (.agg (T.map pairD), q)) : ∀ (j : Nat) (v : Value), (flatT T)[j]? = some v → cs[j]? = some v := by
  obtain ⟨xs, m1, rfl, hx, hlen, hn, hel⟩ := DataW.trod_array ht h
  simp only [Prod.mk.injEq, DataW.agg.injEq] at hx
  intro j v hj
  have hjl : j < T.length * 2 := by
    rcases Nat.lt_or_ge j (T.length * 2) with k | k
    · exact k
    · rw [List.getElem?_eq_none (by rw [flatT_len]; exact k)] at hj
      cases hj
  have hTl : T.length = n := by
    have := congrArg List.length hx.1
    simpa [hn] using this
  have hi : j / 2 < n := by omega
  have h1 := hel (j / 2) hi
  rw [tc87] at h1
  have hxl : j / 2 < xs.length := by omega
  have hTi : T[j / 2]? = some (T[j / 2]'(by omega)) := List.getElem?_eq_getElem (by omega)
  have hd : (xs[j / 2]'hxl).1 = pairD (T[j / 2]'(by omega)) := by
    have := congrArg (fun l => l[j / 2]?) hx.1
    simp only [List.getElem?_map, hTi, List.getElem?_eq_getElem hxl, Option.map_some, Option.some.injEq] at this
    exact this.symm
  rw [List.getElem?_eq_getElem hxl, show xs[j / 2]'hxl = (pairD (T[j / 2]'(by omega)), (xs[j / 2]'hxl).2) from by rw [← hd]] at h1
  have h2 := pair_cells h1
  have h3 := flatT_at hTi
  have key : ∀ r, r < 2 → cs[j / 2 * 2 + r]? = ([.int .i32 (T[j / 2]'(by omega)).1, .int .i32 (T[j / 2]'(by omega)).2] : List Value)[r]? := fun r hr => by
    rw [← h2, List.getElem?_take, if_pos hr, List.getElem?_drop]
  rcases (by omega : j = j / 2 * 2 ∨ j = j / 2 * 2 + 1) with e | e
  · rw [e] at hj ⊢
    rw [h3.1] at hj
    have := key 0 (by decide)
    rw [Nat.add_zero] at this
    rw [this]
    exact hj
  · rw [e] at hj ⊢
    rw [h3.2] at hj
    rw [key 1 (by decide)]
    exact hj
theorem door_met (os : Os) (args : Array Value) : laidMetH Tryd.prog laid2 ((World.doorLaid Tryd.prog 32 os).forCall (fun _ _ => 0) ⟨#[], args, []⟩).memory :=
  laidMetH_of_parts3 (fuel := 8) (laidMet_of_run' 8 (by kernel_rfl) (by kernel_rfl)) (by kernel_rfl) (by kernel_rfl)
theorem tabs_of {W : World} (h : laidMetH Tryd.prog laid2 W) : Tabs W := by
  rw [MakeChecks.laidMetH_plain _ _ _ (by kernel_rfl)] at h
  obtain ⟨ps, ⟨k0, t0, cs0, f0, p0, q0, hg0, ht0, hv0, hd0, ⟨k1, t1, cs1, f1, p1, q1, hg1, ht1, hv1, hd1, _, _⟩, _⟩, _, _⟩ := h
  obtain rfl := Option.some.inj (gNone.symm.trans hg0)
  obtain rfl := Option.some.inj (gWide.symm.trans hg1)
  obtain rfl := Option.some.inj (tNone.symm.trans ht0)
  obtain rfl := Option.some.inj (tWide.symm.trans ht1)
  refine ⟨fun j v hj => ?_, fun j v hj => ?_⟩
  · rw [World.var?_cell hg0 hv0 j]
    have := table_cells (T := tabN) Tryd.underlying88 hd0 j v hj
    simpa using this
  · rw [World.var?_cell hg1 hv1 j]
    have := table_cells (T := tabW) Tryd.underlying89 hd1 j v hj
    simpa using this
end Go.Proofs.YtlhcehealjdbdaaDoor
