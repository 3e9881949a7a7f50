/- A slice of records of a bit, a text and a slice that came in, read by its index. The opening is the guides' text on slices of structs, turned to this. -/
import Derived.Test.YtdnihlfnglkjiaaLOps
import Derived.Test.YtdnihlfnglkjiaaIntsView
import Derived.SliceStrings
import Derived.Test.YtdnihlfnglkjiaaReg
import Derived.WalkKit
import Derived.ProofKit
import Derived.OpenShut
import Derived.Deep.Slices
import Derived.Deep.Fields
import Derived.ChangeSame
namespace Go.Proofs.Ytdnihlfnglkjiaa
open Go.ChangeShapes Go.WideShapes Go.ChangeAt Go.RowKit Go.Deep
section
variable {H : Type} {enc : TypeId × Value → H} {P : Program} {w : World} {base : Nat} {spare : Nat → Bool} {held : Bool}
theorem open_slice_fields {t e : TypeId} {fs : Array Field} {fuel : Nat} {cs : List Value} {x : DataW H × List MemPlace} (ht : P.underlying t = some (.slice e)) (he : P.underlying e = some (.struct fs))
    (hone : oneCellFields P fs = true) (hC : P.cellsOf e = fs.size) (h : DataW.trod enc P w base spare held fuel t cs = some x) :
    (cs = [.slice none 0 0] ∧ x = (.nil, [])) ∨
    ∃ (a : Addr) (len cap m : Nat) (D : Nat → DataW H) (Pl : Nat → List MemPlace), cs = [.slice (some a) len cap] ∧ base ≤ a.block ∧ len ≤ cap ∧ cap ≤ maxLen ∧ m = (if spare a.block then cap else len) ∧
      x = (.slice ((List.range len).map D) ((List.range (m - len)).map fun j => D (len + j)), MemPlace.row a (m * fs.size) ++ (List.range m).flatMap Pl) ∧
      ∀ i, i < m → ∃ (ys : List (DataW H × List MemPlace)) (n : Nat), D i = .agg (ys.map (·.1)) ∧ Pl i = ys.flatMap (·.2) ∧ ys.length = fs.size ∧
        ∀ (j : Nat) (f : Field), fs[j]? = some f → ∃ (v : Value) (y : DataW H × List MemPlace), w.cell? (a.add (i * fs.size + j)) = some v ∧ ys[j]? = some y ∧ DataW.trod enc P w base spare held n f.type [v] = some y := by
  rcases open_slice ht h with h0 | ⟨a, len, cap, m, n, D, Pl, hcs, hb, hl, hm, hmm, hx, hi⟩
  · exact .inl h0
  · refine .inr ⟨a, len, cap, m, D, Pl, hcs, hb, hl, hm, hmm, by rw [hC] at hx; exact hx, fun i him => ?_⟩
    obtain ⟨cs', hc, ht'⟩ := hi i him
    rw [hC] at hc
    obtain ⟨ys, n', hn', hy, hlen, hyl, hf⟩ := DataW.trod_struct he ht'
    obtain ⟨_, hcl, hat⟩ := World.cells?_some hc
    simp only [Prod.mk.injEq] at hy
    refine ⟨ys, n', hy.1, hy.2, hyl, fun j f hj => ?_⟩
    obtain ⟨ho, hk⟩ := hone_of hone j f hj
    have hjl : j < fs.size := (Array.getElem?_eq_some_iff.1 hj).1
    have hcell := hat j hjl
    have hv : cs'[j]? = some (cs'[j]'(by omega)) := List.getElem?_eq_getElem (by omega)
    have h1 := hf j f hj
    rw [ho, hk] at h1
    have hone' : (cs'.drop j).take 1 = [cs'[j]'(by omega)] := by
      rw [List.drop_eq_getElem_cons (by omega)]
      rfl
    rw [hone'] at h1
    have hys : ys[j]? = some (ys[j]'(by omega)) := List.getElem?_eq_getElem (by omega)
    refine ⟨_, _, ?_, hys, h1.trans hys⟩
    rw [← Go.Deep.add_add, hcell, hv]
end
section
variable {H : Type} {enc : TypeId × Value → H} {P : Program} {W : World} {base : Nat} {v : Value} {d : DataW H} {p : List MemPlace}
theorem view_lops {t e r : TypeId} {f0 f1 f2 : Field} (ht : P.underlying t = some (.slice e)) (he : P.underlying e = some (.struct #[f0, f1, f2])) (hone : oneCellFields P #[f0, f1, f2] = true) (hC : P.cellsOf e = 3)
    (h0 : P.underlying f0.type = some .bool) (h1 : P.underlying f1.type = some .string) (h2 : P.underlying f2.type = some (.slice r)) (h3 : P.underlying r = some (.int .u16)) (h4 : P.cellsOf r = 1)
    (u : Value.okWide P W .any base t v) (h : DataW.Trod enc P W 0 (fun _ => true) true t v d p) :
    ∃ (a : Option Addr) (n c : Nat) (F : Nat → Bool × ByteArray × Option Addr × Nat × Nat × List Nat), v = .slice a n c ∧ LOps W a n F := by
  obtain ⟨a, len, cap, rfl⟩ := okWide_slice ht u
  obtain ⟨fuel, hf⟩ := h
  rcases open_slice_fields ht he hone hC hf with ⟨hcs, _⟩ | ⟨x, l, c, m, D, Pl, hcs, _, hl, hm, hmm, _, hx⟩
  · simp [Value.cells] at hcs
    obtain ⟨rfl, rfl, rfl⟩ := hcs
    exact ⟨_, _, _, fun _ => (false, ByteArray.empty, none, 0, 0, []), rfl, ⟨by omega, fun h => absurd h (by omega)⟩⟩
  · simp [Value.cells] at hcs
    obtain ⟨rfl, rfl, rfl⟩ := hcs
    simp only [if_true] at hmm
    subst hmm
    have each : ∀ i, i < len → ∃ q : Bool × ByteArray × Option Addr × Nat × Nat × List Nat, W.cell? (x.add (i * 3)) = some (.bool q.1) ∧ W.cell? (x.add (i * 3 + 1)) = some (.string q.2.1) ∧ q.2.1.size ≤ 9223372036854775807 ∧
        W.cell? (x.add (i * 3 + 2)) = some (.slice q.2.2.1 q.2.2.2.1 q.2.2.2.2.1) ∧ Ints .u16 W q.2.2.1 q.2.2.2.1 q.2.2.2.2.2 ∧ ∀ z ∈ q.2.2.2.2.2, z < 65536 := by
      intro i hi
      obtain ⟨ys, n', _, _, _, hy⟩ := hx i (by omega)
      obtain ⟨v0, y0, c0, _, t0⟩ := hy 0 f0 rfl
      obtain ⟨v1, y1, c1, _, t1⟩ := hy 1 f1 rfl
      obtain ⟨v2, y2, c2, _, t2⟩ := hy 2 f2 rfl
      obtain ⟨q0, e0, _⟩ := DataW.trod_bool h0 t0
      obtain ⟨q1, e1, _, w1⟩ := DataW.trod_string h1 t1
      simp at e0 e1
      subst e0 e1
      have hs : q1.size ≤ 9223372036854775807 := by unfold maxLen at w1; omega
      rcases open_ints h2 h3 h4 t2 with ⟨hcs2, _⟩ | ⟨x2, l2, k2, zs, hcs2, _, hl2, hm2, hz2, _, hcell2, hwz2⟩
      · simp at hcs2
        subst hcs2
        exact ⟨(q0, q1, none, 0, 0, []), c0, c1, hs, c2, ints_none, by simp⟩
      · simp at hcs2
        subst hcs2
        refine ⟨(q0, q1, some x2, l2, k2, _), c0, c1, hs, c2, ints_some hl2 hm2 (by simpa using hz2) hcell2 (fun n hn => (u16_nn n (hwz2 n hn)).1), fun z hz' => ?_⟩
        obtain ⟨n, hn, rfl⟩ := List.mem_map.1 hz'
        have := u16_nn n (hwz2 n (List.mem_of_mem_take hn))
        omega
    obtain ⟨f, hf'⟩ := choose_lt each
    refine ⟨_, _, _, f, rfl, ⟨by unfold maxLen at hm; omega, fun h0 => ?_⟩⟩
    obtain ⟨b, off, spot⟩ := x
    have hspot : spot = none := by simpa [Addr.add] using World.cell?_spot (hf' 0 h0).1
    subst hspot
    refine ⟨b, off, rfl, Keep.lt (p := ⟨b, off, none⟩) (by have := (hf' 0 h0).1; simp [Addr.add] at this; rw [this]; rfl), fun i hi => ?_⟩
    obtain ⟨g0, g1, g2, g3, g4⟩ := hf' i hi
    rw [Go.WideShapes.add_plain] at g0 g1 g3
    exact ⟨g0, g1, g2, g3, g4⟩
end
end Go.Proofs.Ytdnihlfnglkjiaa
