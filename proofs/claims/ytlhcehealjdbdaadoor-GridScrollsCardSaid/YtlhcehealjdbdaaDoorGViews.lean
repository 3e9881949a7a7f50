/- Grids and calls that came in, read as data. -/
import Derived.Test.YtlhcehealjdbdaaDoorOpView
import Derived.Test.YtlhcehealjdbdaaDoorGDo
import Derived.WalkKit
import Derived.ProofKit
import Derived.OpenShut
import Derived.Deep.Slices
import Derived.Deep.Strs
import Derived.Deep.Fields
import Derived.ChangeSame
namespace Go.Proofs.YtlhcehealjdbdaaDoor
open Go.ChangeShapes Go.WideShapes Go.ChangeAt Go.RowKit Go.Deep
set_option linter.unusedSimpArgs false
set_option linter.unusedVariables false

theorem gcG : Tryd.prog.cellsOf 49 = 3 := by kernel_rfl
theorem gcS : Tryd.prog.cellsOf 29 = 1 := by kernel_rfl
theorem gcO9 : Tryd.prog.cellsOf 68 = 9 := by kernel_rfl
theorem list3g {cs : List Value} (h : cs.length = 3) : ∃ a b c, cs = [a, b, c] := by
  match cs, h with
  | [a, b, c], _ => exact ⟨a, b, c, rfl⟩
theorem list9 {cs : List Value} (h : cs.length = 9) : ∃ a b c d e f g i j, cs = [a, b, c, d, e, f, g, i, j] := by
  match cs, h with
  | [a, b, c, d, e, f, g, i, j], _ => exact ⟨a, b, c, d, e, f, g, i, j, rfl⟩
def Op9.vals (o : Op9) : List Value := [.int .i64 o.k, .int .i64 o.x, .int .i64 o.y, .int .i64 o.n, .int .i32 o.r, .int .u32 o.f, .int .u32 o.b, .int .u8 o.a, .int .u16 o.l]
section
variable {H : Type} {enc : TypeId × Value → H} {W : World}
theorem open_cells {fuel : Nat} {cs : List Value} {x : DataW H × List MemPlace} (h : DataW.trod enc Tryd.prog W 0 (fun _ => true) true fuel 29 cs = some x) : ∃ (a : Option Addr) (n c : Nat) (xs : List Glyph), cs = [.slice a n c] ∧ Cells W a n xs ∧ n ≤ c := by
  rcases open_slice Tryd.underlying29 h with ⟨hcs, _⟩ | ⟨x, l, c, m, n, D, Pl, hcs, _, hl, hm, hmm, _, hx⟩
  · exact ⟨_, _, _, [], hcs, Cells.none, Nat.le_refl _⟩
  · simp only [if_true] at hmm
    subst hmm
    have each : ∀ i, i < l → ∃ g : Glyph, (∀ j u, g.cells[j]? = some u → W.cell? ((x.add (i * 6)).add j) = some u) ∧ GWf g := by
      intro i hi
      obtain ⟨cs', h1, h2⟩ := hx i (by omega)
      rw [gcC] at h1
      obtain ⟨g, rfl, hg⟩ := open_glyph h2
      obtain ⟨_, _, hat⟩ := World.cells?_some h1
      exact ⟨g, fun j u hj => by
        have hj6 : j < 6 := (List.getElem?_eq_some_iff.1 hj).1
        rw [hat j hj6, hj], hg⟩
    have : Inhabited Glyph := ⟨g0⟩
    obtain ⟨f, hf'⟩ := gchoose_lt each
    refine ⟨_, _, _, (List.range l).map f, hcs, ⟨by simp, by unfold maxLen at hm; omega, fun h0 => ?_⟩, hl⟩
    obtain ⟨b, off, spot⟩ := x
    have h1 := (hf' 0 h0).1 0 _ rfl
    have hspot : spot = none := by simpa [Addr.add] using World.cell?_spot h1
    subst hspot
    refine ⟨b, off, rfl, Keep.lt (p := ⟨b, off, none⟩) (by simp [Addr.add] at h1; rw [h1]; rfl), fun i hi => ?_⟩
    have key := (hf' i hi).1
    rw [List.getD_eq_getElem?_getD, List.getElem?_map, List.getElem?_range hi]
    simp only [Option.map_some, Option.getD_some]
    have k2 : ∀ j u, (f i).cells[j]? = some u → W.cell? ⟨b, off + i * 6 + j, none⟩ = some u := fun j u hj => by
      have := key j u hj
      rwa [add_plain, add_plain] at this
    exact ⟨k2 0 _ rfl, k2 1 _ rfl, k2 2 _ rfl, k2 3 _ rfl, k2 4 _ rfl, k2 5 _ rfl⟩
theorem open_grid {fuel : Nat} {cs : List Value} {x : DataW H × List MemPlace} (h : DataW.trod enc Tryd.prog W 0 (fun _ => true) true fuel 49 cs = some x) : ∃ (c r : Int) (a : Option Addr) (n cp : Nat) (xs : List Glyph), cs = [.int .i64 c, .int .i64 r, .slice a n cp] ∧ Cells W a n xs ∧ n ≤ cp := by
  obtain ⟨xs, n, _, _, hl, _, hf⟩ := DataW.trod_struct Tryd.underlying49 h
  rw [gcG] at hl
  obtain ⟨c0, c1, c2, rfl⟩ := list3g hl
  have h0 : DataW.trod enc Tryd.prog W 0 (fun _ => true) true n 3 [c0] = xs[0]? := by simpa [gcI] using hf 0 _ rfl
  have h1 : DataW.trod enc Tryd.prog W 0 (fun _ => true) true n 3 [c1] = xs[1]? := by simpa [gcI] using hf 1 _ rfl
  have h2 : DataW.trod enc Tryd.prog W 0 (fun _ => true) true n 29 [c2] = xs[2]? := by simpa [gcS] using hf 2 _ rfl
  have hx : xs.length = 3 := by assumption
  rw [List.getElem?_eq_getElem (by omega)] at h0 h1 h2
  obtain ⟨c, e0, _, w0⟩ := DataW.trod_int Tryd.underlying3 h0
  obtain ⟨r, e1, _, w1⟩ := DataW.trod_int Tryd.underlying3 h1
  obtain ⟨a, m, cp, ys, e2, hc, hle⟩ := open_cells h2
  simp only [List.cons.injEq, and_true] at e0 e1 e2
  subst e0 e1 e2
  exact ⟨c, r, a, m, cp, ys, rfl, hc, hle⟩
theorem open_op9 {base : Nat} {spare : Nat → Bool} {held : Bool} {fuel : Nat} {cs : List Value} {x : DataW H × List MemPlace} (h : DataW.trod enc Tryd.prog W base spare held fuel 68 cs = some x) : ∃ o : Op9, cs = o.vals := by
  obtain ⟨xs, n, _, _, hl, _, hf⟩ := DataW.trod_struct Tryd.underlying68 h
  rw [gcO9] at hl
  obtain ⟨c0, c1, c2, c3, c4, c5, c6, c7, c8, rfl⟩ := list9 hl
  have h0 : DataW.trod enc Tryd.prog W base spare held n 3 [c0] = xs[0]? := by simpa [gcI] using hf 0 _ rfl
  have h1 : DataW.trod enc Tryd.prog W base spare held n 3 [c1] = xs[1]? := by simpa [gcI] using hf 1 _ rfl
  have h2 : DataW.trod enc Tryd.prog W base spare held n 3 [c2] = xs[2]? := by simpa [gcI] using hf 2 _ rfl
  have h3 : DataW.trod enc Tryd.prog W base spare held n 3 [c3] = xs[3]? := by simpa [gcI] using hf 3 _ rfl
  have h4 : DataW.trod enc Tryd.prog W base spare held n 21 [c4] = xs[4]? := by simpa [gcR] using hf 4 _ rfl
  have h5 : DataW.trod enc Tryd.prog W base spare held n 26 [c5, c6, c7, c8] = xs[5]? := by simpa [gcP] using hf 5 _ rfl
  have hx : xs.length = 6 := by assumption
  rw [List.getElem?_eq_getElem (by omega)] at h0 h1 h2 h3 h4 h5
  obtain ⟨k, e0, _⟩ := DataW.trod_int Tryd.underlying3 h0
  obtain ⟨x, e1, _⟩ := DataW.trod_int Tryd.underlying3 h1
  obtain ⟨y, e2, _⟩ := DataW.trod_int Tryd.underlying3 h2
  obtain ⟨m, e3, _⟩ := DataW.trod_int Tryd.underlying3 h3
  obtain ⟨r, e4, _⟩ := DataW.trod_int Tryd.underlying21 h4
  obtain ⟨f, b, a, l, e5, _⟩ := open_pen h5
  simp only [List.cons.injEq, and_true] at e0 e1 e2 e3 e4 e5
  obtain ⟨rfl, rfl, rfl, rfl⟩ := e5
  subst e0 e1 e2 e3 e4
  exact ⟨⟨k, x, y, m, r, f, b, a, l⟩, rfl⟩
end
section
variable {H : Type} {enc : TypeId × Value → H} {W : World} {base : Nat} {v : Value} {d : DataW H} {p : List MemPlace}
theorem view_grid (u : Value.okWide Tryd.prog W .any base 49 v) (h : DataW.Trod enc Tryd.prog W 0 (fun _ => true) true 49 v d p) :
    ∃ (c r : Int) (a : Option Addr) (n cp : Nat) (xs : List Glyph), v = .agg #[.int .i64 c, .int .i64 r, .slice a n cp] ∧ Cells W a n xs ∧ n ≤ cp := by
  obtain ⟨cs, rfl, _⟩ := okWide_struct Tryd.underlying49 u
  obtain ⟨fuel, hf⟩ := h
  obtain ⟨c, r, a, n, cp, xs, hc, hl, hle⟩ := open_grid hf
  refine ⟨c, r, a, n, cp, xs, ?_, hl, hle⟩
  obtain ⟨cs⟩ := cs
  simp [Value.cells] at hc
  rw [hc]
theorem view_op9 (u : Value.okWide Tryd.prog W .any base 68 v) (h : DataW.Trod enc Tryd.prog W 0 (fun _ => true) true 68 v d p) : ∃ o : Op9, v = .agg #[.int .i64 o.k, .int .i64 o.x, .int .i64 o.y, .int .i64 o.n, .int .i32 o.r, .int .u32 o.f, .int .u32 o.b, .int .u8 o.a, .int .u16 o.l] := by
  obtain ⟨cs, rfl, _⟩ := okWide_struct Tryd.underlying68 u
  obtain ⟨fuel, hf⟩ := h
  obtain ⟨c, hc⟩ := open_op9 hf
  refine ⟨c, ?_⟩
  obtain ⟨cs⟩ := cs
  simp [Value.cells] at hc
  rw [hc]
  rfl
end
end Go.Proofs.YtlhcehealjdbdaaDoor
