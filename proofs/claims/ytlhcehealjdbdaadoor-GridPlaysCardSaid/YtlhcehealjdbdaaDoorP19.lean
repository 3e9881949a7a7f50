/- Part 19 of the texts that GridPlays stands on, one behind the other. -/
import Derived.Test.YtlhcehealjdbdaaDoorP1
import Derived.WalkKit
import Derived.ProofKit
import Derived.OpenShut
import Derived.Deep.Slices
import Derived.Deep.Strs
import Derived.Deep.Fields
import Derived.ChangeSame
import Derived.Test.YtlhcehealjdbdaaDoorP5
import Derived.Test.YtlhcehealjdbdaaDoorP9
import Derived.Deep.DeepCutAuto
import Derived.Test.YtlhcehealjdbdaaDoorP18
import Derived.Test.YtlhcehealjdbdaaDoorP10
import Derived.Test.YtlhcehealjdbdaaDoorP15
/- Cells, pens and rows of cells that came in, read as data. Placeholders: C the cell's type, P the pen's, K the colour's, R the rune's, U the byte's, L the link's, S the row's. -/
namespace Go.Proofs.YtlhcehealjdbdaaDoor
open Go.ChangeShapes Go.WideShapes Go.ChangeAt Go.RowKit Go.Deep
/-- The values are in their kinds' bounds. -/
def GWf (c : Glyph) : Prop := -2147483648 ≤ c.r ∧ c.r ≤ 2147483647 ∧ 0 ≤ c.w ∧ c.w ≤ 255 ∧ 0 ≤ c.f ∧ c.f ≤ 4294967295 ∧ 0 ≤ c.b ∧ c.b ≤ 4294967295 ∧ 0 ≤ c.a ∧ c.a ≤ 255 ∧ 0 ≤ c.l ∧ c.l ≤ 65535
theorem g_i32 {n : Int} (h : (Lit.int .i32 n).wf = true) : -2147483648 ≤ n ∧ n ≤ 2147483647 := by
  simp [Lit.wf, IntKind.min, IntKind.max, IntKind.signed, IntKind.bits] at h
  omega
theorem g_u8 {n : Int} (h : (Lit.int .u8 n).wf = true) : 0 ≤ n ∧ n ≤ 255 := by
  simp [Lit.wf, IntKind.min, IntKind.max, IntKind.signed, IntKind.bits] at h
  omega
theorem g_u16 {n : Int} (h : (Lit.int .u16 n).wf = true) : 0 ≤ n ∧ n ≤ 65535 := by
  simp [Lit.wf, IntKind.min, IntKind.max, IntKind.signed, IntKind.bits] at h
  omega
theorem g_u32 {n : Int} (h : (Lit.int .u32 n).wf = true) : 0 ≤ n ∧ n ≤ 4294967295 := by
  simp [Lit.wf, IntKind.min, IntKind.max, IntKind.signed, IntKind.bits] at h
  omega
theorem gcC : Tryd.prog.cellsOf 28 = 6 := by kernel_rfl
theorem gcP : Tryd.prog.cellsOf 26 = 4 := by kernel_rfl
theorem gcK : Tryd.prog.cellsOf 23 = 1 := by kernel_rfl
theorem gcR : Tryd.prog.cellsOf 21 = 1 := by kernel_rfl
theorem gcU : Tryd.prog.cellsOf 5 = 1 := by kernel_rfl
theorem gcL : Tryd.prog.cellsOf 24 = 1 := by kernel_rfl
theorem list4 {cs : List Value} (h : cs.length = 4) : ∃ a b c d, cs = [a, b, c, d] := by
  match cs, h with
  | [a, b, c, d], _ => exact ⟨a, b, c, d, rfl⟩
theorem list6 {cs : List Value} (h : cs.length = 6) : ∃ a b c d e f, cs = [a, b, c, d, e, f] := by
  match cs, h with
  | [a, b, c, d, e, f], _ => exact ⟨a, b, c, d, e, f, rfl⟩
section
variable {H : Type} {enc : TypeId × Value → H} {W : World} {base : Nat} {spare : Nat → Bool} {held : Bool} {fuel : Nat}
theorem open_pen {cs : List Value} {x : DataW H × List MemPlace} (h : DataW.trod enc Tryd.prog W base spare held fuel 26 cs = some x) :
    ∃ f b a l : Int, cs = [.int .u32 f, .int .u32 b, .int .u8 a, .int .u16 l] ∧ 0 ≤ f ∧ f ≤ 4294967295 ∧ 0 ≤ b ∧ b ≤ 4294967295 ∧ 0 ≤ a ∧ a ≤ 255 ∧ 0 ≤ l ∧ l ≤ 65535 := by
  obtain ⟨xs, n, _, _, hl, _, hf⟩ := DataW.trod_struct Tryd.underlying26 h
  rw [gcP] at hl
  obtain ⟨c0, c1, c2, c3, rfl⟩ := list4 hl
  have h0 : DataW.trod enc Tryd.prog W base spare held n 23 [c0] = xs[0]? := by simpa [gcK] using hf 0 _ rfl
  have h1 : DataW.trod enc Tryd.prog W base spare held n 23 [c1] = xs[1]? := by simpa [gcK] using hf 1 _ rfl
  have h2 : DataW.trod enc Tryd.prog W base spare held n 5 [c2] = xs[2]? := by simpa [gcU] using hf 2 _ rfl
  have h3 : DataW.trod enc Tryd.prog W base spare held n 24 [c3] = xs[3]? := by simpa [gcL] using hf 3 _ rfl
  have hx : xs.length = 4 := by assumption
  rw [List.getElem?_eq_getElem (by omega)] at h0 h1 h2 h3
  obtain ⟨f, e0, _, w0⟩ := DataW.trod_int Tryd.underlying23 h0
  obtain ⟨b, e1, _, w1⟩ := DataW.trod_int Tryd.underlying23 h1
  obtain ⟨a, e2, _, w2⟩ := DataW.trod_int Tryd.underlying5 h2
  obtain ⟨l, e3, _, w3⟩ := DataW.trod_int Tryd.underlying24 h3
  simp only [List.cons.injEq, and_true] at e0 e1 e2 e3
  subst e0 e1 e2 e3
  have b0 := g_u32 w0
  have b1 := g_u32 w1
  have b2 := g_u8 w2
  have b3 := g_u16 w3
  exact ⟨f, b, a, l, rfl, b0.1, b0.2, b1.1, b1.2, b2.1, b2.2, b3.1, b3.2⟩
theorem open_glyph {cs : List Value} {x : DataW H × List MemPlace} (h : DataW.trod enc Tryd.prog W base spare held fuel 28 cs = some x) : ∃ c : Glyph, cs = c.cells ∧ GWf c := by
  obtain ⟨xs, n, _, _, hl, _, hf⟩ := DataW.trod_struct Tryd.underlying28 h
  rw [gcC] at hl
  obtain ⟨c0, c1, c2, c3, c4, c5, rfl⟩ := list6 hl
  have h0 : DataW.trod enc Tryd.prog W base spare held n 21 [c0] = xs[0]? := by simpa [gcR] using hf 0 _ rfl
  have h1 : DataW.trod enc Tryd.prog W base spare held n 5 [c1] = xs[1]? := by simpa [gcU] using hf 1 _ rfl
  have h2 : DataW.trod enc Tryd.prog W base spare held n 26 [c2, c3, c4, c5] = xs[2]? := by simpa [gcP] using hf 2 _ rfl
  have hx : xs.length = 3 := by assumption
  rw [List.getElem?_eq_getElem (by omega)] at h0 h1 h2
  obtain ⟨r, e0, _, w0⟩ := DataW.trod_int Tryd.underlying21 h0
  obtain ⟨w, e1, _, w1⟩ := DataW.trod_int Tryd.underlying5 h1
  obtain ⟨f, b, a, l, e2, p0, p1, p2, p3, p4, p5, p6, p7⟩ := open_pen h2
  simp only [List.cons.injEq, and_true] at e0 e1 e2
  obtain ⟨rfl, rfl, rfl, rfl⟩ := e2
  subst e0 e1
  have b0 := g_i32 w0
  have b1 := g_u8 w1
  exact ⟨⟨r, w, f, b, a, l⟩, rfl, b0.1, b0.2, b1.1, b1.2, p0, p1, p2, p3, p4, p5, p6, p7⟩
end
theorem gchoose_lt {α : Type} {n : Nat} [Inhabited α] {Q : Nat → α → Prop} (h : ∀ i, i < n → ∃ x, Q i x) : ∃ f : Nat → α, ∀ i, i < n → Q i (f i) := by
  have h2 : ∀ i, ∃ x, i < n → Q i x := fun i => by
    by_cases hi : i < n
    · obtain ⟨x, hx⟩ := h i hi
      exact ⟨x, fun _ => hx⟩
    · exact ⟨default, fun k => absurd k hi⟩
  exact ⟨fun i => Classical.choose (h2 i), fun i => Classical.choose_spec (h2 i)⟩
section
variable {H : Type} {enc : TypeId × Value → H} {W : World} {base : Nat} {v : Value} {d : DataW H} {p : List MemPlace}
theorem view_cells {t : TypeId} (ht : Tryd.prog.underlying t = some (.slice 28)) (u : Value.okWide Tryd.prog W .any base t v) (h : DataW.Trod enc Tryd.prog W 0 (fun _ => true) true t v d p) :
    ∃ (a : Option Addr) (n c : Nat) (xs : List Glyph), v = .slice a n c ∧ Cells W a n xs ∧ n ≤ c ∧ ∀ x ∈ xs, GWf x := by
  obtain ⟨a, len, cap, rfl⟩ := okWide_slice ht u
  obtain ⟨fuel, hf⟩ := h
  rcases open_slice ht hf with ⟨hcs, _⟩ | ⟨x, l, c, m, n, D, Pl, hcs, _, hl, hm, hmm, _, hx⟩
  · simp [Value.cells] at hcs
    obtain ⟨rfl, rfl, rfl⟩ := hcs
    exact ⟨_, _, _, [], rfl, Cells.none, Nat.le_refl _, by simp⟩
  · simp [Value.cells] at hcs
    obtain ⟨rfl, rfl, rfl⟩ := hcs
    simp only [if_true] at hmm
    subst hmm
    have each : ∀ i, i < len → ∃ g : Glyph, (∀ j u, g.cells[j]? = some u → W.cell? ((x.add (i * 6)).add j) = some u) ∧ GWf g := by
      intro i hi
      obtain ⟨cs', h1, h2⟩ := hx i (by omega)
      rw [gcC] at h1
      obtain ⟨g, rfl, hg⟩ := open_glyph h2
      obtain ⟨_, _, hat⟩ := World.cells?_some h1
      exact ⟨g, fun j u hj => by
        have hj6 : j < 6 := (List.getElem?_eq_some_iff.1 hj).1
        rw [hat j hj6, hj], hg⟩
    have : Inhabited Glyph := ⟨g0⟩
    obtain ⟨f, hf'⟩ := gchoose_lt each
    refine ⟨_, _, _, (List.range len).map f, rfl, ⟨by simp, by unfold maxLen at hm; omega, fun h0 => ?_⟩, hl, fun y hy => ?_⟩
    · obtain ⟨b, off, spot⟩ := x
      have h1 := (hf' 0 h0).1 0 _ rfl
      have hspot : spot = none := by simpa [Addr.add] using World.cell?_spot h1
      subst hspot
      refine ⟨b, off, rfl, Keep.lt (p := ⟨b, off, none⟩) (by simp [Addr.add] at h1; rw [h1]; rfl), fun i hi => ?_⟩
      have key := (hf' i hi).1
      rw [List.getD_eq_getElem?_getD, List.getElem?_map, List.getElem?_range hi]
      simp only [Option.map_some, Option.getD_some]
      have k2 : ∀ j u, (f i).cells[j]? = some u → W.cell? ⟨b, off + i * 6 + j, none⟩ = some u := fun j u hj => by
        have := key j u hj
        rwa [add_plain, add_plain] at this
      exact ⟨k2 0 _ rfl, k2 1 _ rfl, k2 2 _ rfl, k2 3 _ rfl, k2 4 _ rfl, k2 5 _ rfl⟩
    · obtain ⟨i, hi, rfl⟩ := List.mem_map.1 hy
      exact (hf' i (List.mem_range.1 hi)).2
theorem view_pen (u : Value.okWide Tryd.prog W .any base 26 v) (h : DataW.Trod enc Tryd.prog W 0 (fun _ => true) true 26 v d p) :
    ∃ f b a l : Int, v = .agg #[.int .u32 f, .int .u32 b, .int .u8 a, .int .u16 l] ∧ 0 ≤ f ∧ f ≤ 4294967295 ∧ 0 ≤ b ∧ b ≤ 4294967295 ∧ 0 ≤ a ∧ a ≤ 255 ∧ 0 ≤ l ∧ l ≤ 65535 := by
  obtain ⟨cs, rfl, _⟩ := okWide_struct Tryd.underlying26 u
  obtain ⟨fuel, hf⟩ := h
  obtain ⟨f, b, a, l, hc, hb⟩ := open_pen hf
  refine ⟨f, b, a, l, ?_, hb⟩
  obtain ⟨cs⟩ := cs
  simp [Value.cells] at hc
  rw [hc]
theorem view_glyph (u : Value.okWide Tryd.prog W .any base 28 v) (h : DataW.Trod enc Tryd.prog W 0 (fun _ => true) true 28 v d p) :
    ∃ c : Glyph, v = .agg #[.int .i32 c.r, .int .u8 c.w, .int .u32 c.f, .int .u32 c.b, .int .u8 c.a, .int .u16 c.l] ∧ GWf c := by
  obtain ⟨cs, rfl, _⟩ := okWide_struct Tryd.underlying28 u
  obtain ⟨fuel, hf⟩ := h
  obtain ⟨c, hc, hb⟩ := open_glyph hf
  refine ⟨c, ?_, hb⟩
  obtain ⟨cs⟩ := cs
  simp [Value.cells] at hc
  rw [hc]
  rfl
end
end Go.Proofs.YtlhcehealjdbdaaDoor
/- A call that came in, read as data. -/
namespace Go.Proofs.YtlhcehealjdbdaaDoor
open Go.ChangeShapes Go.WideShapes Go.ChangeAt Go.RowKit Go.Deep
set_option linter.unusedSimpArgs false
set_option linter.unusedVariables false

theorem gcO : Tryd.prog.cellsOf 43 = 8 := by kernel_rfl
theorem gcI : Tryd.prog.cellsOf 3 = 1 := by kernel_rfl
theorem g_i64 {n : Int} (h : (Lit.int .i64 n).wf = true) : -9223372036854775808 ≤ n ∧ n ≤ 9223372036854775807 := by
  simp [Lit.wf, IntKind.min, IntKind.max, IntKind.signed, IntKind.bits] at h
  omega
theorem list8 {cs : List Value} (h : cs.length = 8) : ∃ a b c d e f g i, cs = [a, b, c, d, e, f, g, i] := by
  match cs, h with
  | [a, b, c, d, e, f, g, i], _ => exact ⟨a, b, c, d, e, f, g, i, rfl⟩
def Op8.vals (o : Op8) : List Value := [.int .i64 o.k, .int .i64 o.x, .int .i64 o.n, .int .i32 o.r, .int .u32 o.f, .int .u32 o.b, .int .u8 o.a, .int .u16 o.l]
/-- The values are in their kinds' bounds. -/
def OWf (o : Op8) : Prop := (-9223372036854775808 ≤ o.k ∧ o.k ≤ 9223372036854775807) ∧ (-9223372036854775808 ≤ o.x ∧ o.x ≤ 9223372036854775807) ∧ (-9223372036854775808 ≤ o.n ∧ o.n ≤ 9223372036854775807) ∧ (-2147483648 ≤ o.r ∧ o.r ≤ 2147483647)
section
variable {H : Type} {enc : TypeId × Value → H} {W : World} {base : Nat} {spare : Nat → Bool} {held : Bool} {fuel : Nat}
theorem open_op {cs : List Value} {x : DataW H × List MemPlace} (h : DataW.trod enc Tryd.prog W base spare held fuel 43 cs = some x) : ∃ o : Op8, cs = o.vals ∧ OWf o := by
  obtain ⟨xs, n, _, _, hl, _, hf⟩ := DataW.trod_struct Tryd.underlying43 h
  rw [gcO] at hl
  obtain ⟨c0, c1, c2, c3, c4, c5, c6, c7, rfl⟩ := list8 hl
  have h0 : DataW.trod enc Tryd.prog W base spare held n 3 [c0] = xs[0]? := by simpa [gcI] using hf 0 _ rfl
  have h1 : DataW.trod enc Tryd.prog W base spare held n 3 [c1] = xs[1]? := by simpa [gcI] using hf 1 _ rfl
  have h2 : DataW.trod enc Tryd.prog W base spare held n 3 [c2] = xs[2]? := by simpa [gcI] using hf 2 _ rfl
  have h3 : DataW.trod enc Tryd.prog W base spare held n 21 [c3] = xs[3]? := by simpa [gcR] using hf 3 _ rfl
  have h4 : DataW.trod enc Tryd.prog W base spare held n 26 [c4, c5, c6, c7] = xs[4]? := by simpa [gcP] using hf 4 _ rfl
  have hx : xs.length = 5 := by assumption
  rw [List.getElem?_eq_getElem (by omega)] at h0 h1 h2 h3 h4
  obtain ⟨k, e0, _, w0⟩ := DataW.trod_int Tryd.underlying3 h0
  obtain ⟨x, e1, _, w1⟩ := DataW.trod_int Tryd.underlying3 h1
  obtain ⟨m, e2, _, w2⟩ := DataW.trod_int Tryd.underlying3 h2
  obtain ⟨r, e3, _, w3⟩ := DataW.trod_int Tryd.underlying21 h3
  obtain ⟨f, b, a, l, e4, _⟩ := open_pen h4
  simp only [List.cons.injEq, and_true] at e0 e1 e2 e3 e4
  obtain ⟨rfl, rfl, rfl, rfl⟩ := e4
  subst e0 e1 e2 e3
  exact ⟨⟨k, x, m, r, f, b, a, l⟩, rfl, g_i64 w0, g_i64 w1, g_i64 w2, g_i32 w3⟩
end
section
variable {H : Type} {enc : TypeId × Value → H} {W : World} {base : Nat} {v : Value} {d : DataW H} {p : List MemPlace}
theorem view_op (u : Value.okWide Tryd.prog W .any base 43 v) (h : DataW.Trod enc Tryd.prog W 0 (fun _ => true) true 43 v d p) :
    ∃ o : Op8, v = .agg #[.int .i64 o.k, .int .i64 o.x, .int .i64 o.n, .int .i32 o.r, .int .u32 o.f, .int .u32 o.b, .int .u8 o.a, .int .u16 o.l] ∧ OWf o := by
  obtain ⟨cs, rfl, _⟩ := okWide_struct Tryd.underlying43 u
  obtain ⟨fuel, hf⟩ := h
  obtain ⟨c, hc, hb⟩ := open_op hf
  refine ⟨c, ?_, hb⟩
  obtain ⟨cs⟩ := cs
  simp [Value.cells] at hc
  rw [hc]
  rfl
end
end Go.Proofs.YtlhcehealjdbdaaDoor
/- Grids and calls that came in, read as data. -/
namespace Go.Proofs.YtlhcehealjdbdaaDoor
open Go.ChangeShapes Go.WideShapes Go.ChangeAt Go.RowKit Go.Deep
set_option linter.unusedSimpArgs false
set_option linter.unusedVariables false

theorem gcG : Tryd.prog.cellsOf 49 = 3 := by kernel_rfl
theorem gcS : Tryd.prog.cellsOf 29 = 1 := by kernel_rfl
theorem gcO9 : Tryd.prog.cellsOf 68 = 9 := by kernel_rfl
theorem list3g {cs : List Value} (h : cs.length = 3) : ∃ a b c, cs = [a, b, c] := by
  match cs, h with
  | [a, b, c], _ => exact ⟨a, b, c, rfl⟩
theorem list9 {cs : List Value} (h : cs.length = 9) : ∃ a b c d e f g i j, cs = [a, b, c, d, e, f, g, i, j] := by
  match cs, h with
  | [a, b, c, d, e, f, g, i, j], _ => exact ⟨a, b, c, d, e, f, g, i, j, rfl⟩
def Op9.vals (o : Op9) : List Value := [.int .i64 o.k, .int .i64 o.x, .int .i64 o.y, .int .i64 o.n, .int .i32 o.r, .int .u32 o.f, .int .u32 o.b, .int .u8 o.a, .int .u16 o.l]
section
variable {H : Type} {enc : TypeId × Value → H} {W : World}
theorem open_cells {fuel : Nat} {cs : List Value} {x : DataW H × List MemPlace} (h : DataW.trod enc Tryd.prog W 0 (fun _ => true) true fuel 29 cs = some x) : ∃ (a : Option Addr) (n c : Nat) (xs : List Glyph), cs = [.slice a n c] ∧ Cells W a n xs ∧ n ≤ c := by
  rcases open_slice Tryd.underlying29 h with ⟨hcs, _⟩ | ⟨x, l, c, m, n, D, Pl, hcs, _, hl, hm, hmm, _, hx⟩
  · exact ⟨_, _, _, [], hcs, Cells.none, Nat.le_refl _⟩
  · simp only [if_true] at hmm
    subst hmm
    have each : ∀ i, i < l → ∃ g : Glyph, (∀ j u, g.cells[j]? = some u → W.cell? ((x.add (i * 6)).add j) = some u) ∧ GWf g := by
      intro i hi
      obtain ⟨cs', h1, h2⟩ := hx i (by omega)
      rw [gcC] at h1
      obtain ⟨g, rfl, hg⟩ := open_glyph h2
      obtain ⟨_, _, hat⟩ := World.cells?_some h1
      exact ⟨g, fun j u hj => by
        have hj6 : j < 6 := (List.getElem?_eq_some_iff.1 hj).1
        rw [hat j hj6, hj], hg⟩
    have : Inhabited Glyph := ⟨g0⟩
    obtain ⟨f, hf'⟩ := gchoose_lt each
    refine ⟨_, _, _, (List.range l).map f, hcs, ⟨by simp, by unfold maxLen at hm; omega, fun h0 => ?_⟩, hl⟩
    obtain ⟨b, off, spot⟩ := x
    have h1 := (hf' 0 h0).1 0 _ rfl
    have hspot : spot = none := by simpa [Addr.add] using World.cell?_spot h1
    subst hspot
    refine ⟨b, off, rfl, Keep.lt (p := ⟨b, off, none⟩) (by simp [Addr.add] at h1; rw [h1]; rfl), fun i hi => ?_⟩
    have key := (hf' i hi).1
    rw [List.getD_eq_getElem?_getD, List.getElem?_map, List.getElem?_range hi]
    simp only [Option.map_some, Option.getD_some]
    have k2 : ∀ j u, (f i).cells[j]? = some u → W.cell? ⟨b, off + i * 6 + j, none⟩ = some u := fun j u hj => by
      have := key j u hj
      rwa [add_plain, add_plain] at this
    exact ⟨k2 0 _ rfl, k2 1 _ rfl, k2 2 _ rfl, k2 3 _ rfl, k2 4 _ rfl, k2 5 _ rfl⟩
theorem open_grid {fuel : Nat} {cs : List Value} {x : DataW H × List MemPlace} (h : DataW.trod enc Tryd.prog W 0 (fun _ => true) true fuel 49 cs = some x) : ∃ (c r : Int) (a : Option Addr) (n cp : Nat) (xs : List Glyph), cs = [.int .i64 c, .int .i64 r, .slice a n cp] ∧ Cells W a n xs ∧ n ≤ cp := by
  obtain ⟨xs, n, _, _, hl, _, hf⟩ := DataW.trod_struct Tryd.underlying49 h
  rw [gcG] at hl
  obtain ⟨c0, c1, c2, rfl⟩ := list3g hl
  have h0 : DataW.trod enc Tryd.prog W 0 (fun _ => true) true n 3 [c0] = xs[0]? := by simpa [gcI] using hf 0 _ rfl
  have h1 : DataW.trod enc Tryd.prog W 0 (fun _ => true) true n 3 [c1] = xs[1]? := by simpa [gcI] using hf 1 _ rfl
  have h2 : DataW.trod enc Tryd.prog W 0 (fun _ => true) true n 29 [c2] = xs[2]? := by simpa [gcS] using hf 2 _ rfl
  have hx : xs.length = 3 := by assumption
  rw [List.getElem?_eq_getElem (by omega)] at h0 h1 h2
  obtain ⟨c, e0, _, w0⟩ := DataW.trod_int Tryd.underlying3 h0
  obtain ⟨r, e1, _, w1⟩ := DataW.trod_int Tryd.underlying3 h1
  obtain ⟨a, m, cp, ys, e2, hc, hle⟩ := open_cells h2
  simp only [List.cons.injEq, and_true] at e0 e1 e2
  subst e0 e1 e2
  exact ⟨c, r, a, m, cp, ys, rfl, hc, hle⟩
theorem open_op9 {base : Nat} {spare : Nat → Bool} {held : Bool} {fuel : Nat} {cs : List Value} {x : DataW H × List MemPlace} (h : DataW.trod enc Tryd.prog W base spare held fuel 68 cs = some x) : ∃ o : Op9, cs = o.vals := by
  obtain ⟨xs, n, _, _, hl, _, hf⟩ := DataW.trod_struct Tryd.underlying68 h
  rw [gcO9] at hl
  obtain ⟨c0, c1, c2, c3, c4, c5, c6, c7, c8, rfl⟩ := list9 hl
  have h0 : DataW.trod enc Tryd.prog W base spare held n 3 [c0] = xs[0]? := by simpa [gcI] using hf 0 _ rfl
  have h1 : DataW.trod enc Tryd.prog W base spare held n 3 [c1] = xs[1]? := by simpa [gcI] using hf 1 _ rfl
  have h2 : DataW.trod enc Tryd.prog W base spare held n 3 [c2] = xs[2]? := by simpa [gcI] using hf 2 _ rfl
  have h3 : DataW.trod enc Tryd.prog W base spare held n 3 [c3] = xs[3]? := by simpa [gcI] using hf 3 _ rfl
  have h4 : DataW.trod enc Tryd.prog W base spare held n 21 [c4] = xs[4]? := by simpa [gcR] using hf 4 _ rfl
  have h5 : DataW.trod enc Tryd.prog W base spare held n 26 [c5, c6, c7, c8] = xs[5]? := by simpa [gcP] using hf 5 _ rfl
  have hx : xs.length = 6 := by assumption
  rw [List.getElem?_eq_getElem (by omega)] at h0 h1 h2 h3 h4 h5
  obtain ⟨k, e0, _⟩ := DataW.trod_int Tryd.underlying3 h0
  obtain ⟨x, e1, _⟩ := DataW.trod_int Tryd.underlying3 h1
  obtain ⟨y, e2, _⟩ := DataW.trod_int Tryd.underlying3 h2
  obtain ⟨m, e3, _⟩ := DataW.trod_int Tryd.underlying3 h3
  obtain ⟨r, e4, _⟩ := DataW.trod_int Tryd.underlying21 h4
  obtain ⟨f, b, a, l, e5, _⟩ := open_pen h5
  simp only [List.cons.injEq, and_true] at e0 e1 e2 e3 e4 e5
  obtain ⟨rfl, rfl, rfl, rfl⟩ := e5
  subst e0 e1 e2 e3 e4
  exact ⟨⟨k, x, y, m, r, f, b, a, l⟩, rfl⟩
end
section
variable {H : Type} {enc : TypeId × Value → H} {W : World} {base : Nat} {v : Value} {d : DataW H} {p : List MemPlace}
theorem view_grid (u : Value.okWide Tryd.prog W .any base 49 v) (h : DataW.Trod enc Tryd.prog W 0 (fun _ => true) true 49 v d p) :
    ∃ (c r : Int) (a : Option Addr) (n cp : Nat) (xs : List Glyph), v = .agg #[.int .i64 c, .int .i64 r, .slice a n cp] ∧ Cells W a n xs ∧ n ≤ cp := by
  obtain ⟨cs, rfl, _⟩ := okWide_struct Tryd.underlying49 u
  obtain ⟨fuel, hf⟩ := h
  obtain ⟨c, r, a, n, cp, xs, hc, hl, hle⟩ := open_grid hf
  refine ⟨c, r, a, n, cp, xs, ?_, hl, hle⟩
  obtain ⟨cs⟩ := cs
  simp [Value.cells] at hc
  rw [hc]
theorem view_op9 (u : Value.okWide Tryd.prog W .any base 68 v) (h : DataW.Trod enc Tryd.prog W 0 (fun _ => true) true 68 v d p) : ∃ o : Op9, v = .agg #[.int .i64 o.k, .int .i64 o.x, .int .i64 o.y, .int .i64 o.n, .int .i32 o.r, .int .u32 o.f, .int .u32 o.b, .int .u8 o.a, .int .u16 o.l] := by
  obtain ⟨cs, rfl, _⟩ := okWide_struct Tryd.underlying68 u
  obtain ⟨fuel, hf⟩ := h
  obtain ⟨c, hc⟩ := open_op9 hf
  refine ⟨c, ?_⟩
  obtain ⟨cs⟩ := cs
  simp [Value.cells] at hc
  rw [hc]
  rfl
end
end Go.Proofs.YtlhcehealjdbdaaDoor
/- A row of grid calls in memory; a call's copy; and the row read as data. -/
namespace Go.Proofs.YtlhcehealjdbdaaDoor
open Go.ChangeShapes Go.WideShapes Go.ChangeAt Go.RowKit Go.Deep
set_option linter.unusedSimpArgs false
set_option linter.unusedVariables false

def OpAt9 (w : World) (b o : Nat) (p : Op9) : Prop := w.cell? ⟨b, o, none⟩ = some (.int .i64 p.k) ∧ w.cell? ⟨b, o + 1, none⟩ = some (.int .i64 p.x) ∧ w.cell? ⟨b, o + 2, none⟩ = some (.int .i64 p.y) ∧ w.cell? ⟨b, o + 3, none⟩ = some (.int .i64 p.n) ∧ w.cell? ⟨b, o + 4, none⟩ = some (.int .i32 p.r) ∧ w.cell? ⟨b, o + 5, none⟩ = some (.int .u32 p.f) ∧ w.cell? ⟨b, o + 6, none⟩ = some (.int .u32 p.b) ∧ w.cell? ⟨b, o + 7, none⟩ = some (.int .u8 p.a) ∧ w.cell? ⟨b, o + 8, none⟩ = some (.int .u16 p.l)
/-- The slice's calls are os. -/
def Ops9 (w : World) (a : Option Addr) (n : Nat) (os : Nat → Op9) : Prop :=
  n ≤ 9223372036854775807 ∧ (0 < n → ∃ b off, a = some ⟨b, off, none⟩ ∧ b < w.heap.size ∧ ∀ i, i < n → OpAt9 w b (off + i * 9) (os i))
theorem OpAt9.same {w w' : World} {b o : Nat} {c : Op9} (h : OpAt9 w b o c) (k : ∀ p : Addr, p.block = b → w'.cell? p = w.cell? p) : OpAt9 w' b o c :=
  ⟨(k _ rfl).trans h.1, (k _ rfl).trans h.2.1, (k _ rfl).trans h.2.2.1, (k _ rfl).trans h.2.2.2.1, (k _ rfl).trans h.2.2.2.2.1, (k _ rfl).trans h.2.2.2.2.2.1, (k _ rfl).trans h.2.2.2.2.2.2.1, (k _ rfl).trans h.2.2.2.2.2.2.2.1, (k _ rfl).trans h.2.2.2.2.2.2.2.2⟩
theorem Ops9.below {w w' : World} {a : Option Addr} {n : Nat} {os : Nat → Op9} (h : Ops9 w a n os) (hb : Below w.heap.size w w') : Ops9 w' a n os := by
  refine ⟨h.1, fun h0 => ?_⟩
  obtain ⟨b, off, he, hb', hc⟩ := h.2 h0
  exact ⟨b, off, he, Nat.lt_of_lt_of_le hb' hb.size, fun i hi => (hc i hi).same fun p hp => hb.cell (by omega)⟩
section
variable {o : Oper} {a : Act} {w : World} {Q : Exit → Act → World → Prop}
/-- A call copied into a block of its own. -/
theorem ostore9_list {ops : Array Oper} {rest : List Oper} (hgd : o.guard = none) (p v : Operand) (ho : o.op = .store 68 p v) {g : Nat} {d : Op9} {c0 c1 c2 c3 c4 c5 c6 c7 c8 : Value} (hp : a.eval p = .pointer (some ⟨g, 0, none⟩)) (hv : a.eval v = .agg #[.int .i64 d.k, .int .i64 d.x, .int .i64 d.y, .int .i64 d.n, .int .i32 d.r, .int .u32 d.f, .int .u32 d.b, .int .u8 d.a, .int .u16 d.l])
    (hr : Own w g 68 #[c0, c1, c2, c3, c4, c5, c6, c7, c8]) (h : ∀ w', Own w' g 68 #[.int .i64 d.k, .int .i64 d.x, .int .i64 d.y, .int .i64 d.n, .int .i32 d.r, .int .u32 d.f, .int .u32 d.b, .int .u8 d.a, .int .u16 d.l] → w.grownBy w' (some g) → wpList Tryd.prog ops Q rest (a.put o.dst undef) w') : wpList Tryd.prog ops Q (o :: rest) a w := by
  have hrun : ∃ w', (Instr.storeAt 68 (.pointer (some ⟨g, 0, none⟩)) (.agg #[.int .i64 d.k, .int .i64 d.x, .int .i64 d.y, .int .i64 d.n, .int .i32 d.r, .int .u32 d.f, .int .u32 d.b, .int .u8 d.a, .int .u16 d.l])).run Tryd.prog w = .ok () w' ∧ Own w' g 68 #[.int .i64 d.k, .int .i64 d.x, .int .i64 d.y, .int .i64 d.n, .int .i32 d.r, .int .u32 d.f, .int .u32 d.b, .int .u8 d.a, .int .u16 d.l] ∧ w.grownBy w' (some g) := by
    have p0 := hr.cell 0
    have p1 := hr.cell 1
    have p2 := hr.cell 2
    have p3 := hr.cell 3
    have p4 := hr.cell 4
    have p5 := hr.cell 5
    have p6 := hr.cell 6
    have p7 := hr.cell 7
    have p8 := hr.cell 8
    have f0 := hr.frozen 0
    have f1 := hr.frozen 1
    have f2 := hr.frozen 2
    have f3 := hr.frozen 3
    have f4 := hr.frozen 4
    have f5 := hr.frozen 5
    have f6 := hr.frozen 6
    have f7 := hr.frozen 7
    have f8 := hr.frozen 8
    simp only [List.getElem?_toArray, List.getElem?_cons_zero, List.getElem?_cons_succ] at p0 p1 p2 p3 p4 p5 p6 p7 p8
    have h0 : Own (w.setCell ⟨g, 0, none⟩ (.int .i64 d.k)) g 68 #[.int .i64 d.k, c1, c2, c3, c4, c5, c6, c7, c8] := by simpa using hr.store 0 (.int .i64 d.k)
    have h1 : Own ((w.setCell ⟨g, 0, none⟩ (.int .i64 d.k)).setCell ⟨g, 1, none⟩ (.int .i64 d.x)) g 68 #[.int .i64 d.k, .int .i64 d.x, c2, c3, c4, c5, c6, c7, c8] := by simpa using h0.store 1 (.int .i64 d.x)
    have h2 : Own (((w.setCell ⟨g, 0, none⟩ (.int .i64 d.k)).setCell ⟨g, 1, none⟩ (.int .i64 d.x)).setCell ⟨g, 2, none⟩ (.int .i64 d.y)) g 68 #[.int .i64 d.k, .int .i64 d.x, .int .i64 d.y, c3, c4, c5, c6, c7, c8] := by simpa using h1.store 2 (.int .i64 d.y)
    have h3 : Own ((((w.setCell ⟨g, 0, none⟩ (.int .i64 d.k)).setCell ⟨g, 1, none⟩ (.int .i64 d.x)).setCell ⟨g, 2, none⟩ (.int .i64 d.y)).setCell ⟨g, 3, none⟩ (.int .i64 d.n)) g 68 #[.int .i64 d.k, .int .i64 d.x, .int .i64 d.y, .int .i64 d.n, c4, c5, c6, c7, c8] := by simpa using h2.store 3 (.int .i64 d.n)
    have h4 : Own (((((w.setCell ⟨g, 0, none⟩ (.int .i64 d.k)).setCell ⟨g, 1, none⟩ (.int .i64 d.x)).setCell ⟨g, 2, none⟩ (.int .i64 d.y)).setCell ⟨g, 3, none⟩ (.int .i64 d.n)).setCell ⟨g, 4, none⟩ (.int .i32 d.r)) g 68 #[.int .i64 d.k, .int .i64 d.x, .int .i64 d.y, .int .i64 d.n, .int .i32 d.r, c5, c6, c7, c8] := by simpa using h3.store 4 (.int .i32 d.r)
    have h5 : Own ((((((w.setCell ⟨g, 0, none⟩ (.int .i64 d.k)).setCell ⟨g, 1, none⟩ (.int .i64 d.x)).setCell ⟨g, 2, none⟩ (.int .i64 d.y)).setCell ⟨g, 3, none⟩ (.int .i64 d.n)).setCell ⟨g, 4, none⟩ (.int .i32 d.r)).setCell ⟨g, 5, none⟩ (.int .u32 d.f)) g 68 #[.int .i64 d.k, .int .i64 d.x, .int .i64 d.y, .int .i64 d.n, .int .i32 d.r, .int .u32 d.f, c6, c7, c8] := by simpa using h4.store 5 (.int .u32 d.f)
    have h6 : Own (((((((w.setCell ⟨g, 0, none⟩ (.int .i64 d.k)).setCell ⟨g, 1, none⟩ (.int .i64 d.x)).setCell ⟨g, 2, none⟩ (.int .i64 d.y)).setCell ⟨g, 3, none⟩ (.int .i64 d.n)).setCell ⟨g, 4, none⟩ (.int .i32 d.r)).setCell ⟨g, 5, none⟩ (.int .u32 d.f)).setCell ⟨g, 6, none⟩ (.int .u32 d.b)) g 68 #[.int .i64 d.k, .int .i64 d.x, .int .i64 d.y, .int .i64 d.n, .int .i32 d.r, .int .u32 d.f, .int .u32 d.b, c7, c8] := by simpa using h5.store 6 (.int .u32 d.b)
    have h7 : Own ((((((((w.setCell ⟨g, 0, none⟩ (.int .i64 d.k)).setCell ⟨g, 1, none⟩ (.int .i64 d.x)).setCell ⟨g, 2, none⟩ (.int .i64 d.y)).setCell ⟨g, 3, none⟩ (.int .i64 d.n)).setCell ⟨g, 4, none⟩ (.int .i32 d.r)).setCell ⟨g, 5, none⟩ (.int .u32 d.f)).setCell ⟨g, 6, none⟩ (.int .u32 d.b)).setCell ⟨g, 7, none⟩ (.int .u8 d.a)) g 68 #[.int .i64 d.k, .int .i64 d.x, .int .i64 d.y, .int .i64 d.n, .int .i32 d.r, .int .u32 d.f, .int .u32 d.b, .int .u8 d.a, c8] := by simpa using h6.store 7 (.int .u8 d.a)
    have h8 : Own (((((((((w.setCell ⟨g, 0, none⟩ (.int .i64 d.k)).setCell ⟨g, 1, none⟩ (.int .i64 d.x)).setCell ⟨g, 2, none⟩ (.int .i64 d.y)).setCell ⟨g, 3, none⟩ (.int .i64 d.n)).setCell ⟨g, 4, none⟩ (.int .i32 d.r)).setCell ⟨g, 5, none⟩ (.int .u32 d.f)).setCell ⟨g, 6, none⟩ (.int .u32 d.b)).setCell ⟨g, 7, none⟩ (.int .u8 d.a)).setCell ⟨g, 8, none⟩ (.int .u16 d.l)) g 68 #[.int .i64 d.k, .int .i64 d.x, .int .i64 d.y, .int .i64 d.n, .int .i32 d.r, .int .u32 d.f, .int .u32 d.b, .int .u8 d.a, .int .u16 d.l] := by simpa using h7.store 8 (.int .u16 d.l)
    refine ⟨_, ?_, h8, turn_store (turn_store (turn_store (turn_store (turn_store (turn_store (turn_store (turn_store (turn_store (turn_refl w _) _ _) _ _) _ _) _ _) _ _) _ _) _ _) _ _) _ _⟩
    clear h0 h1 h2 h3 h4 h5 h6 h7 h8
    go_simp
  obtain ⟨w', hrun, h1, h2⟩ := hrun
  refine wpList_plain hgd fun K hK => ?_
  unfold Oper.wp execOp
  simp only [ho, hp, hv, Sem.run_bind, hrun, Result.andThen_ok]
  simp only [Sem.run_pure, Oper.upon]
  exact hK _ _ (h w' h1 h2)
end
def op90 : Op9 := ⟨0, 0, 0, 0, 0, 0, 0, 0, 0⟩
section
variable {H : Type} {enc : TypeId × Value → H} {W : World} {base : Nat} {v : Value} {d : DataW H} {p : List MemPlace}
theorem view_ops9 {t : TypeId} (ht : Tryd.prog.underlying t = some (.slice 68)) (u : Value.okWide Tryd.prog W .any base t v) (h : DataW.Trod enc Tryd.prog W 0 (fun _ => true) true t v d p) :
    ∃ (a : Option Addr) (n c : Nat) (os : Nat → Op9), v = .slice a n c ∧ Ops9 W a n os := by
  obtain ⟨a, len, cap, rfl⟩ := okWide_slice ht u
  obtain ⟨fuel, hf⟩ := h
  rcases open_slice ht hf with ⟨hcs, _⟩ | ⟨x, l, c, m, n, D, Pl, hcs, _, hl, hm, hmm, _, hx⟩
  · simp [Value.cells] at hcs
    obtain ⟨rfl, rfl, rfl⟩ := hcs
    exact ⟨_, _, _, fun _ => op90, rfl, ⟨by omega, fun h => absurd h (by omega)⟩⟩
  · simp [Value.cells] at hcs
    obtain ⟨rfl, rfl, rfl⟩ := hcs
    simp only [if_true] at hmm
    subst hmm
    have each : ∀ i, i < len → ∃ g : Op9, ∀ j u, g.vals[j]? = some u → W.cell? ((x.add (i * 9)).add j) = some u := by
      intro i hi
      obtain ⟨cs', h1, h2⟩ := hx i (by omega)
      rw [gcO9] at h1
      obtain ⟨g, rfl⟩ := open_op9 h2
      obtain ⟨_, _, hat⟩ := World.cells?_some h1
      exact ⟨g, fun j u hj => by
        have hj6 : j < 9 := (List.getElem?_eq_some_iff.1 hj).1
        rw [hat j hj6, hj]⟩
    have : Inhabited Op9 := ⟨op90⟩
    obtain ⟨f, hf'⟩ := gchoose_lt each
    refine ⟨_, _, _, f, rfl, ⟨by unfold maxLen at hm; omega, fun h0 => ?_⟩⟩
    obtain ⟨b, off, spot⟩ := x
    have h1 := (hf' 0 h0) 0 _ rfl
    have hspot : spot = none := by simpa [Addr.add] using World.cell?_spot h1
    subst hspot
    refine ⟨b, off, rfl, Keep.lt (p := ⟨b, off, none⟩) (by simp [Addr.add] at h1; rw [h1]; rfl), fun i hi => ?_⟩
    have key := hf' i hi
    have k2 : ∀ j u, (f i).vals[j]? = some u → W.cell? ⟨b, off + i * 9 + j, none⟩ = some u := fun j u hj => by
      have := key j u hj
      rwa [add_plain, add_plain] at this
    exact ⟨k2 0 _ rfl, k2 1 _ rfl, k2 2 _ rfl, k2 3 _ rfl, k2 4 _ rfl, k2 5 _ rfl, k2 6 _ rfl, k2 7 _ rfl, k2 8 _ rfl⟩
end
end Go.Proofs.YtlhcehealjdbdaaDoor
/- A grid's copy: the document's. -/
namespace Go.Proofs.YtlhcehealjdbdaaDoor
open Go.RowKit
set_option linter.unusedSimpArgs false
set_option linter.unusedVariables false
attribute [local go_sem] alloc_drewN setCell_drewN


set_option maxRecDepth 10000 in
set_option maxHeartbeats 2000000 in
theorem ref_copy_any (c r : Int) (a : Option Addr) (n cp : Nat) (xs : List Glyph) (w : World) (hl : Cells w a n xs) (hm : n ≤ 1000000) : Calls Tryd.prog 41 #[.agg #[.int .i64 c, .int .i64 r, .slice a n cp]] w (GG c r xs w) := by
  obtain rfl := hl.1
  have HL := Lib.hid hl
  clear hl
  have B0 : Hid (Below w.heap.size w ((w.alloc (.cells #[.int .i64 c, .int .i64 r, .slice a xs.length cp] 49)).alloc (.cells #[.int .i64 0, .int .i64 0, .slice none 0 0] 49))) := ((Below.refl _ _).alloc (Nat.le_refl _) _).alloc (by simp) _
  have G0 : Hid (Own ((w.alloc (.cells #[.int .i64 c, .int .i64 r, .slice a xs.length cp] 49)).alloc (.cells #[.int .i64 0, .int .i64 0, .slice none 0 0] 49)) w.heap.size 49 #[.int .i64 c, .int .i64 r, .slice a xs.length cp]) := (Own.new w 49 _).alloc _
  have A0' : Own ((w.alloc (.cells #[.int .i64 c, .int .i64 r, .slice a xs.length cp] 49)).alloc (.cells #[.int .i64 0, .int .i64 0, .slice none 0 0] 49)) (w.heap.size + 1) 49 #[.int .i64 0, .int .i64 0, .slice none 0 0] := by
    have h := Own.new (w.alloc (.cells #[.int .i64 c, .int .i64 r, .slice a xs.length cp] 49)) 49 #[.int .i64 0, .int .i64 0, .slice none 0 0]
    simpa using h
  have A0 := Lib.hid A0'
  have hz0 : w.heap.size + 2 ≤ ((w.alloc (.cells #[.int .i64 c, .int .i64 r, .slice a xs.length cp] 49)).alloc (.cells #[.int .i64 0, .int .i64 0, .slice none 0 0] 49)).heap.size := by simp
  clear A0'
  have g0 := Own.cell G0.out 0
  have g1 := Own.cell G0.out 1
  have g2 := Own.cell G0.out 2
  simp only [List.getElem?_toArray, List.getElem?_cons_zero, List.getElem?_cons_succ] at g0 g1 g2
  go_enter Tryd.func41, Tryd.ntmps41
  go_wp2_with fail
  generalize (w.alloc (.cells #[.int .i64 c, .int .i64 r, .slice a xs.length cp] 49)).alloc (.cells #[.int .i64 0, .int .i64 0, .slice none 0 0] 49) = w0 at B0 G0 A0 hz0 g0 g1 g2 ⊢
  refine (gcopy_any a xs.length cp xs w0 (HL.out.below B0.out) hm).mono ?_
  rintro e w1 ⟨v1, rfl, r1, b1⟩
  have B1 : Hid (Below w.heap.size w w1) := B0.out.trans (b1.mono B0.out.size)
  have G1 := Lib.hid (G0.out.below b1 (by omega))
  have A1 := Lib.hid (A0.out.below b1 (by omega))
  obtain ⟨va, vc, rfl, _⟩ := r1.cells
  have R1 : Hid (CRow w1 w0.heap.size (.slice va xs.length vc) xs) := r1
  clear r1 b1 g0 g1 g2
  have hG := G1.out
  go_upto_region 2 with (first
    | (refine gcstore_list rfl _ _ rfl (sa := va) (sn := xs.length) (sc := vc) rfl rfl hG ?_; intro w4 o4 k4; have G4 := Lib.hid o4; have B4 : Hid (Below w.heap.size w w4) := below_grown B1.out k4 (by omega) B1.out.size; have A4 := Lib.hid (A1.out.grown k4 (fun e => by injection e with e; omega)); have R4 : Hid (CRow w4 w0.heap.size (.slice va xs.length vc) xs) := crow_other R1.out k4 (by omega); clear o4 k4 hG)
    | go_in)
  (try simp only [Act.put])
  have g0 := Own.cell G4.out 0
  have g1 := Own.cell G4.out 1
  have g2 := Own.cell G4.out 2
  simp only [List.getElem?_toArray, List.getElem?_cons_zero, List.getElem?_cons_succ] at g0 g1 g2
  have hA := A4.out
  go_wp2_with (first
    | (refine gvstore_list rfl _ _ rfl (c := c) (r := r) (sa := va) (sn := xs.length) (sc := vc) rfl rfl hA ?_; intro w5 o5 k5; have O5 := Lib.hid o5; have B5 : Hid (Below w.heap.size w w5) := below_grown B4.out k5 (by omega) B4.out.size; have R5 : Hid (CRow w5 w0.heap.size (.slice va xs.length vc) xs) := crow_other R4.out k5 (by omega); clear o5 k5 hA)
    | go_in)
  clear g0 g1 g2
  have g0 := Own.cell O5.out 0
  have g1 := Own.cell O5.out 1
  have g2 := Own.cell O5.out 2
  simp only [List.getElem?_toArray, List.getElem?_cons_zero, List.getElem?_cons_succ] at g0 g1 g2
  (try simp only [Exit.inBlock, Exit.then])
  refine bodyPost_ret (v := .agg #[.int .i64 c, .int .i64 r, .slice va xs.length vc]) (by simp [results, Tryd.results41, go_sem, g0, g1, g2]) rfl ?_
  exact ⟨_, rfl, R5.out.up (by omega), B5.out⟩
end Go.Proofs.YtlhcehealjdbdaaDoor
/- Of any grid and any call the answer is the document's: the law's walk. -/
namespace Go.Proofs.YtlhcehealjdbdaaDoor
open Go.RowKit
set_option linter.unusedSimpArgs false
set_option linter.unusedVariables false
attribute [local go_sem] alloc_drewN setCell_drewN


theorem rows_some {c r : Int} {xs : List Glyph} {w w' : World} {e : Ending} (h : RowsPost c r xs w e w') : ∃ v, e = .returned (.tuple #[v, .bool (gridMay c r xs)]) ∧ Below w.heap.size w w' := by
  unfold RowsPost at h
  split at h
  · rename_i q
    obtain ⟨v, h1, _, h3⟩ := h
    exact ⟨v, by rw [h1, q], h3⟩
  · rename_i q
    exact ⟨_, by rw [h.1, Bool.eq_false_iff.2 q], h.2⟩
theorem grune_run {w : World} {base g n c k : Nat} {xs : List Glyph} {z : Glyph} (u : Int) (hr : CRow w base (.slice (some ⟨g, 0, none⟩) n c) xs) (hk : k < n) (hz : xs.getD k g0 = z) :
    ∃ w', (Instr.storeAt 21 (.pointer (some ⟨g, k * 6, none⟩)) (.int .i32 u)).run Tryd.prog w = .ok () w' ∧
      CRow w' base (.slice (some ⟨g, 0, none⟩) n c) (xs.set k ⟨u, z.w, z.f, z.b, z.a, z.l⟩) ∧ w.grownBy w' (some g) := by
  subst hz
  obtain ⟨⟨p0, _⟩, hbg, hfz⟩ := crow_at hr hk
  have f0 := hfz (k * 6)
  refine ⟨_, ?_, crow_put (j := 0) (d := ⟨u, (xs.getD k g0).w, (xs.getD k g0).f, (xs.getD k g0).b, (xs.getD k g0).a, (xs.getD k g0).l⟩) (u := .int .i32 u) hr hk (by omega) rfl, turn_store (turn_refl w _) _ _⟩
  go_simp
section
variable {o : Oper} {a : Act} {w : World} {Q : Exit → Act → World → Prop}
theorem grune_op {K : Act → World → Prop} (p v : Operand) (ho : o.op = .store 21 p v) {base g n c k : Nat} {xs : List Glyph} {z : Glyph} {u : Int} (hp : a.eval p = .pointer (some ⟨g, k * 6, none⟩)) (hv : a.eval v = .int .i32 u)
    (hr : CRow w base (.slice (some ⟨g, 0, none⟩) n c) xs) (hk : k < n) (hz : xs.getD k g0 = z) (h : ∀ w', CRow w' base (.slice (some ⟨g, 0, none⟩) n c) (xs.set k ⟨u, z.w, z.f, z.b, z.a, z.l⟩) → w.grownBy w' (some g) → K (a.put o.dst undef) w') : Oper.wp Tryd.prog o a w K Q := by
  obtain ⟨w', hrun, h1, h2⟩ := grune_run u hr hk hz
  unfold Oper.wp execOp
  simp only [ho, hp, hv, Sem.run_bind, hrun, Result.andThen_ok]
  simp only [Sem.run_pure, Oper.upon]
  exact h w' h1 h2
end
def DlRel (w2 : World) (hh : Nat) (C2 R2 : Int) (ma : Option Addr) (m mc : Nat) (wr : World) : Prop :=
  (∃ ys : List Glyph, CRow wr w2.heap.size (.slice ma m mc) ys) ∧ Own wr hh 49 #[.int .i64 C2, .int .i64 R2, .slice ma m mc] ∧ Below w2.heap.size w2 wr
set_option maxRecDepth 10000 in
set_option maxHeartbeats 4000000 in
theorem griddoes_walk (c r : Int) (o : Op9) (a : Option Addr) (n cp : Nat) (xs : List Glyph) (w : World) (hl : Cells w a n xs) (hcp : n ≤ cp) (ht : Tabs w) :
    Calls Tryd.prog 11 #[.agg #[.int .i64 c, .int .i64 r, .slice a n cp], .agg #[.int .i64 o.k, .int .i64 o.x, .int .i64 o.y, .int .i64 o.n, .int .i32 o.r, .int .u32 o.f, .int .u32 o.b, .int .u8 o.a, .int .u16 o.l]] w (RVal (.bool true) w) := by
  obtain rfl := hl.1
  have HL := Lib.hid hl
  have HT := Lib.hid ht
  clear hl ht
  have B0 : Hid (Below w.heap.size w ((w.alloc (.cells #[.int .i64 c, .int .i64 r, .slice a xs.length cp] 49)).alloc (.cells #[.int .i64 o.k, .int .i64 o.x, .int .i64 o.y, .int .i64 o.n, .int .i32 o.r, .int .u32 o.f, .int .u32 o.b, .int .u8 o.a, .int .u16 o.l] 68))) := ((Below.refl _ _).alloc (Nat.le_refl _) _).alloc (by simp) _
  have G0 : Hid (Own ((w.alloc (.cells #[.int .i64 c, .int .i64 r, .slice a xs.length cp] 49)).alloc (.cells #[.int .i64 o.k, .int .i64 o.x, .int .i64 o.y, .int .i64 o.n, .int .i32 o.r, .int .u32 o.f, .int .u32 o.b, .int .u8 o.a, .int .u16 o.l] 68)) w.heap.size 49 #[.int .i64 c, .int .i64 r, .slice a xs.length cp]) := (Own.new w 49 _).alloc _
  have P0' : Own ((w.alloc (.cells #[.int .i64 c, .int .i64 r, .slice a xs.length cp] 49)).alloc (.cells #[.int .i64 o.k, .int .i64 o.x, .int .i64 o.y, .int .i64 o.n, .int .i32 o.r, .int .u32 o.f, .int .u32 o.b, .int .u8 o.a, .int .u16 o.l] 68)) (w.heap.size + 1) 68 #[.int .i64 o.k, .int .i64 o.x, .int .i64 o.y, .int .i64 o.n, .int .i32 o.r, .int .u32 o.f, .int .u32 o.b, .int .u8 o.a, .int .u16 o.l] := by
    have h := Own.new (w.alloc (.cells #[.int .i64 c, .int .i64 r, .slice a xs.length cp] 49)) 68 #[.int .i64 o.k, .int .i64 o.x, .int .i64 o.y, .int .i64 o.n, .int .i32 o.r, .int .u32 o.f, .int .u32 o.b, .int .u8 o.a, .int .u16 o.l]
    simpa using h
  have P0 := Lib.hid P0'
  clear P0'
  have g0 := Own.cell G0.out 0
  have g1 := Own.cell G0.out 1
  have g2 := Own.cell G0.out 2
  simp only [List.getElem?_toArray, List.getElem?_cons_zero, List.getElem?_cons_succ] at g0 g1 g2
  have e0 := Own.cell P0.out 0
  simp only [List.getElem?_toArray, List.getElem?_cons_zero, List.getElem?_cons_succ] at e0
  go_enter Tryd.func11, Tryd.ntmps11
  go_upto_region 1 with fail
  generalize (w.alloc (.cells #[.int .i64 c, .int .i64 r, .slice a xs.length cp] 49)).alloc (.cells #[.int .i64 o.k, .int .i64 o.x, .int .i64 o.y, .int .i64 o.n, .int .i32 o.r, .int .u32 o.f, .int .u32 o.b, .int .u8 o.a, .int .u16 o.l] 68) = w0 at B0 G0 P0 g0 g1 g2 e0 ⊢
  cases h4 : decide ((4000 : Int) < xs.length) with
  | true =>
    go_wp2_with fail
    refine (gfixed_any _ (HT.out.below B0.out)).mono ?_
    rintro e w1 ⟨rfl, b1⟩
    have B1 : Hid (Below w.heap.size w w1) := B0.out.trans (b1.mono B0.out.size)
    clear b1
    go_wp2_with fail
    go_ret
    exact ⟨rfl, B1.out⟩
  | false =>
  cases hk0 : decide (o.k < 0) with
  | true =>
    go_wp2_with fail
    refine (gfixed_any _ (HT.out.below B0.out)).mono ?_
    rintro e w1 ⟨rfl, b1⟩
    have B1 : Hid (Below w.heap.size w w1) := B0.out.trans (b1.mono B0.out.size)
    clear b1
    go_wp2_with fail
    go_ret
    exact ⟨rfl, B1.out⟩
  | false =>
  cases hk5 : decide (5 < o.k) with
  | true =>
    go_wp2_with fail
    refine (gfixed_any _ (HT.out.below B0.out)).mono ?_
    rintro e w1 ⟨rfl, b1⟩
    have B1 : Hid (Below w.heap.size w w1) := B0.out.trans (b1.mono B0.out.size)
    clear b1
    go_wp2_with fail
    go_ret
    exact ⟨rfl, B1.out⟩
  | false =>
    have hk : 0 ≤ o.k ∧ o.k ≤ 5 := ⟨by have := of_decide_eq_false hk0; omega, by have := of_decide_eq_false hk5; omega⟩
    have hn4 : xs.length ≤ 4000 := by have := of_decide_eq_false h4; omega
    go_wp2_with fail
    refine (ref_copy_any c r a xs.length cp xs w0 (HL.out.below B0.out) (by omega)).mono ?_
    rintro e w1 ⟨v1, rfl, r1, b1⟩
    obtain ⟨va, vc, rfl, _⟩ := r1.cells
    have B1 : Hid (Below w.heap.size w w1) := B0.out.trans (b1.mono B0.out.size)
    have G1 := Lib.hid (G0.out.below b1 G0.out.lt)
    have P1 := Lib.hid (P0.out.below b1 P0.out.lt)
    have R1 := Lib.hid r1
    have hvc : xs.length ≤ vc := by
      rcases Nat.eq_zero_or_pos xs.length with q | q
      · omega
      · exact crow_cap r1 q
    clear r1 b1 g0 g1 g2 e0 h4 hk0 hk5
    go_upto_region 4 with fail
    have HO2 : Hid (Own (w1.alloc (.cells #[.int .i64 c, .int .i64 r, .slice va xs.length vc] 49)) w1.heap.size 49 #[.int .i64 c, .int .i64 r, .slice va xs.length vc]) := Own.new w1 49 _
    have B2 : Hid (Below w.heap.size w (w1.alloc (.cells #[.int .i64 c, .int .i64 r, .slice va xs.length vc] 49))) := B1.out.alloc B1.out.size _
    have G2 := Lib.hid (G1.out.alloc (.cells #[.int .i64 c, .int .i64 r, .slice va xs.length vc] 49))
    have P2 := Lib.hid (P1.out.alloc (.cells #[.int .i64 c, .int .i64 r, .slice va xs.length vc] 49))
    have R2' := Lib.hid (R1.out.alloc (.cells #[.int .i64 c, .int .i64 r, .slice va xs.length vc] 49))
    generalize w1.alloc (.cells #[.int .i64 c, .int .i64 r, .slice va xs.length vc] 49) = w2 at HO2 B2 G2 P2 R2' ⊢
    generalize w1.heap.size = ho at HO2 ⊢
    have g0 := Own.cell HO2.out 0
    have g1 := Own.cell HO2.out 1
    have g2 := Own.cell HO2.out 2
    simp only [List.getElem?_toArray, List.getElem?_cons_zero, List.getElem?_cons_succ] at g0 g1 g2
    have e0 := Own.cell P2.out 0
    have e1 := Own.cell P2.out 1
    have e2 := Own.cell P2.out 2
    have e3 := Own.cell P2.out 3
    have e4 := Own.cell P2.out 4
    have e5 := Own.cell P2.out 5
    have e6 := Own.cell P2.out 6
    have e7 := Own.cell P2.out 7
    have e8 := Own.cell P2.out 8
    simp only [List.getElem?_toArray, List.getElem?_cons_zero, List.getElem?_cons_succ] at e0 e1 e2 e3 e4 e5 e6 e7 e8
    go_wp2_with fail
    have HCALL := Lib.hid (gdo_all o hk c r va xs.length vc xs w2 (cells_of R2'.out) hvc (HT.out.below B2.out))
    refine HCALL.out.mono ?_
    clear HCALL
    obtain ⟨C2, hc2⟩ : ∃ C2, doC o c r xs = C2 := ⟨_, rfl⟩
    obtain ⟨R2, hr2⟩ : ∃ R2, doR o c r xs = R2 := ⟨_, rfl⟩
    obtain ⟨M, hM⟩ : ∃ M, doM o c r xs = M := ⟨_, rfl⟩
    rw [hc2, hr2, hM]
    have HC2 := Lib.hid hc2
    have HR2 := Lib.hid hr2
    have HM := Lib.hid hM
    clear hc2 hr2 hM
    rintro e w3 ⟨v3, rfl, r3, b3⟩
    obtain ⟨ma, mc, rfl, _⟩ := r3.cells
    have B3 : Hid (Below w.heap.size w w3) := B2.out.trans (b3.mono B2.out.size)
    have G3 := Lib.hid (G2.out.below b3 G2.out.lt)
    have P3 := Lib.hid (P2.out.below b3 P2.out.lt)
    have PO3 := Lib.hid (HO2.out.below b3 HO2.out.lt)
    have RO3 := Lib.hid (R2'.out.below b3)
    have RM3 := Lib.hid r3
    have BB3 : Hid (Below w2.heap.size w2 w3) := b3
    clear r3 b3 g0 g1 g2 e0 e1 e2 e3 e4 e5 e6 e7 e8
    go_upto_region 5 with fail
    have PH4 : Hid (Own (w3.alloc (.cells #[.int .i64 C2, .int .i64 R2, .slice ma M.length mc] 49)) w3.heap.size 49 #[.int .i64 C2, .int .i64 R2, .slice ma M.length mc]) := Own.new w3 49 _
    have B4 : Hid (Below w.heap.size w (w3.alloc (.cells #[.int .i64 C2, .int .i64 R2, .slice ma M.length mc] 49))) := B3.out.alloc B3.out.size _
    have G4 := Lib.hid (G3.out.alloc (.cells #[.int .i64 C2, .int .i64 R2, .slice ma M.length mc] 49))
    have P4 := Lib.hid (P3.out.alloc (.cells #[.int .i64 C2, .int .i64 R2, .slice ma M.length mc] 49))
    have PO4 := Lib.hid (PO3.out.alloc (.cells #[.int .i64 C2, .int .i64 R2, .slice ma M.length mc] 49))
    have RO4 := Lib.hid (RO3.out.alloc (.cells #[.int .i64 C2, .int .i64 R2, .slice ma M.length mc] 49))
    have RM4 := Lib.hid (RM3.out.alloc (.cells #[.int .i64 C2, .int .i64 R2, .slice ma M.length mc] 49))
    have BB4 : Hid (Below w2.heap.size w2 (w3.alloc (.cells #[.int .i64 C2, .int .i64 R2, .slice ma M.length mc] 49))) := BB3.out.alloc BB3.out.size _
    generalize w3.alloc (.cells #[.int .i64 C2, .int .i64 R2, .slice ma M.length mc] 49) = w4 at PH4 B4 G4 P4 PO4 RO4 RM4 BB4 ⊢
    generalize w3.heap.size = hh at PH4 ⊢
    clear G3 P3 PO3 RO3 RM3 BB3 B3
    have g0 := Own.cell G4.out 0
    have g1 := Own.cell G4.out 1
    have g2 := Own.cell G4.out 2
    simp only [List.getElem?_toArray, List.getElem?_cons_zero, List.getElem?_cons_succ] at g0 g1 g2
    go_wp2_with fail
    refine (ref_rows_any c r a xs.length cp xs w4 (HL.out.below B4.out) hcp).mono ?_
    intro e w5 hp
    obtain ⟨v5, rfl, b5⟩ := rows_some hp
    obtain ⟨mb, hmb⟩ : ∃ mb, gridMay c r xs = mb := ⟨_, rfl⟩
    rw [hmb]
    have HMB := Lib.hid hmb
    clear hp hmb g0 g1 g2
    have PO5 := Lib.hid (PO4.out.below b5 PO4.out.lt)
    have PH5 := Lib.hid (PH4.out.below b5 PH4.out.lt)
    have G5 := Lib.hid (G4.out.below b5 G4.out.lt)
    have P5 := Lib.hid (P4.out.below b5 P4.out.lt)
    have B5 : Hid (Below w.heap.size w w5) := B4.out.trans (b5.mono B4.out.size)
    have RO5 := Lib.hid (RO4.out.below b5)
    have RM5 := Lib.hid (RM4.out.below b5)
    have BB5 : Hid (Below w2.heap.size w2 w5) := BB4.out.trans (b5.mono BB4.out.size)
    clear b5 G4 P4 PO4 PH4 RO4 RM4 BB4 B4
    go_upto_region 6 with fail
    have B6 : Hid (Below w.heap.size w w5.drew) := below_drewN B5.out 1
    have RO6 : Hid (CRow w5.drew w0.heap.size (.slice va xs.length vc) xs) := RO5.out
    have RM6 : Hid (CRow w5.drew w2.heap.size (.slice ma M.length mc) M) := RM5.out
    have BB6 : Hid (Below w2.heap.size w2 w5.drew) := below_drewN BB5.out 1
    have PO6 : Hid (Own w5.drew ho 49 #[.int .i64 c, .int .i64 r, .slice va xs.length vc]) := PO5.out
    have PH6 : Hid (Own w5.drew hh 49 #[.int .i64 C2, .int .i64 R2, .slice ma M.length mc]) := PH5.out
    have G6 : Hid (Own w5.drew w.heap.size 49 #[.int .i64 c, .int .i64 r, .slice a xs.length cp]) := G5.out
    have P6 : Hid (Own w5.drew (w.heap.size + 1) 68 #[.int .i64 o.k, .int .i64 o.x, .int .i64 o.y, .int .i64 o.n, .int .i32 o.r, .int .u32 o.f, .int .u32 o.b, .int .u8 o.a, .int .u16 o.l]) := P5.out
    have S6 : Hid ((w5.drew.cell? ⟨ho, 0, none⟩ = some (.int .i64 c) ∧ w5.drew.cell? ⟨ho, 1, none⟩ = some (.int .i64 r) ∧ w5.drew.cell? ⟨ho, 2, none⟩ = some (.slice va xs.length vc)) ∧ (w5.drew.cell? ⟨hh, 0, none⟩ = some (.int .i64 C2) ∧ w5.drew.cell? ⟨hh, 1, none⟩ = some (.int .i64 R2) ∧ w5.drew.cell? ⟨hh, 2, none⟩ = some (.slice ma M.length mc)) ∧ (w5.drew.cell? ⟨w.heap.size, 0, none⟩ = some (.int .i64 c) ∧ w5.drew.cell? ⟨w.heap.size, 1, none⟩ = some (.int .i64 r) ∧ w5.drew.cell? ⟨w.heap.size, 2, none⟩ = some (.slice a xs.length cp)) ∧ (w5.drew.cell? ⟨(w.heap.size + 1), 0, none⟩ = some (.int .i64 o.k) ∧ w5.drew.cell? ⟨(w.heap.size + 1), 1, none⟩ = some (.int .i64 o.x) ∧ w5.drew.cell? ⟨(w.heap.size + 1), 2, none⟩ = some (.int .i64 o.y) ∧ w5.drew.cell? ⟨(w.heap.size + 1), 3, none⟩ = some (.int .i64 o.n) ∧ w5.drew.cell? ⟨(w.heap.size + 1), 4, none⟩ = some (.int .i32 o.r) ∧ w5.drew.cell? ⟨(w.heap.size + 1), 5, none⟩ = some (.int .u32 o.f) ∧ w5.drew.cell? ⟨(w.heap.size + 1), 6, none⟩ = some (.int .u32 o.b) ∧ w5.drew.cell? ⟨(w.heap.size + 1), 7, none⟩ = some (.int .u8 o.a) ∧ w5.drew.cell? ⟨(w.heap.size + 1), 8, none⟩ = some (.int .u16 o.l))) := ⟨⟨Own.cell PO6.out 0, Own.cell PO6.out 1, Own.cell PO6.out 2⟩, ⟨Own.cell PH6.out 0, Own.cell PH6.out 1, Own.cell PH6.out 2⟩, ⟨Own.cell G6.out 0, Own.cell G6.out 1, Own.cell G6.out 2⟩, ⟨Own.cell P6.out 0, Own.cell P6.out 1, Own.cell P6.out 2, Own.cell P6.out 3, Own.cell P6.out 4, Own.cell P6.out 5, Own.cell P6.out 6, Own.cell P6.out 7, Own.cell P6.out 8⟩⟩
    clear PO5 PH5 G5 P5 RO5 RM5 BB5 B5
    refine wp_region_bits_at (S := fun w' => (w'.cell? ⟨ho, 0, none⟩ = some (.int .i64 c) ∧ w'.cell? ⟨ho, 1, none⟩ = some (.int .i64 r) ∧ w'.cell? ⟨ho, 2, none⟩ = some (.slice va xs.length vc)) ∧ (w'.cell? ⟨hh, 0, none⟩ = some (.int .i64 C2) ∧ w'.cell? ⟨hh, 1, none⟩ = some (.int .i64 R2) ∧ w'.cell? ⟨hh, 2, none⟩ = some (.slice ma M.length mc)) ∧ (w'.cell? ⟨w.heap.size, 0, none⟩ = some (.int .i64 c) ∧ w'.cell? ⟨w.heap.size, 1, none⟩ = some (.int .i64 r) ∧ w'.cell? ⟨w.heap.size, 2, none⟩ = some (.slice a xs.length cp)) ∧ (w'.cell? ⟨(w.heap.size + 1), 0, none⟩ = some (.int .i64 o.k) ∧ w'.cell? ⟨(w.heap.size + 1), 1, none⟩ = some (.int .i64 o.x) ∧ w'.cell? ⟨(w.heap.size + 1), 2, none⟩ = some (.int .i64 o.y) ∧ w'.cell? ⟨(w.heap.size + 1), 3, none⟩ = some (.int .i64 o.n) ∧ w'.cell? ⟨(w.heap.size + 1), 4, none⟩ = some (.int .i32 o.r) ∧ w'.cell? ⟨(w.heap.size + 1), 5, none⟩ = some (.int .u32 o.f) ∧ w'.cell? ⟨(w.heap.size + 1), 6, none⟩ = some (.int .u32 o.b) ∧ w'.cell? ⟨(w.heap.size + 1), 7, none⟩ = some (.int .u8 o.a) ∧ w'.cell? ⟨(w.heap.size + 1), 8, none⟩ = some (.int .u16 o.l))) [(0, false), (1, true), (2, true), (3, true), (5, true), (4, false), (6, true), (7, true), (8, true), (9, true), (10, true), (11, true), (12, false), (13, false), (14, true), (15, true)] [] (by kernel_rfl) (by kernel_rfl) (fun c a d v w h => by cases d <;> exact h) S6.out ?_
    simp only [bits_, bitOf, List.getElem?_cons_zero, List.getElem?_cons_succ, List.contains_nil]
    repeat (first | (refine bits_take (v := ?_) (by rfl) ?_ ?_; rotate_left; (· intro w' hS; obtain ⟨⟨s0, s1, s2⟩, ⟨s3, s4, s5⟩, ⟨s6, s7, s8⟩, ⟨s9, s10, s11, s12, s13, s14, s15, s16, s17⟩⟩ := hS; go_simp; (try (go_ints; try go_simp)); with_reducible rfl); (try simp only [Act.put, List.setIfInBounds_toArray, List.set_cons_zero, List.set_cons_succ])) | (refine bits_skip (by rfl) ?_; (try simp only [Act.put, List.setIfInBounds_toArray, List.set_cons_zero, List.set_cons_succ])))
    refine bits_eff (by rfl) (fun K hK => ?_)
    go_simp
    (try go_ints)
    refine (gfixed_any _ (HT.out.below B6.out)).mono ?_
    rintro e w7 ⟨rfl, b7⟩
    have PO7 := Lib.hid (PO6.out.below b7 PO6.out.lt)
    have PH7 := Lib.hid (PH6.out.below b7 PH6.out.lt)
    have G7 := Lib.hid (G6.out.below b7 G6.out.lt)
    have P7 := Lib.hid (P6.out.below b7 P6.out.lt)
    have B7 : Hid (Below w.heap.size w w7) := B6.out.trans (b7.mono B6.out.size)
    have RO7 := Lib.hid (RO6.out.below b7)
    have RM7 := Lib.hid (RM6.out.below b7)
    have BB7 : Hid (Below w2.heap.size w2 w7) := BB6.out.trans (b7.mono BB6.out.size)
    have S7 : Hid ((w7.cell? ⟨ho, 0, none⟩ = some (.int .i64 c) ∧ w7.cell? ⟨ho, 1, none⟩ = some (.int .i64 r) ∧ w7.cell? ⟨ho, 2, none⟩ = some (.slice va xs.length vc)) ∧ (w7.cell? ⟨hh, 0, none⟩ = some (.int .i64 C2) ∧ w7.cell? ⟨hh, 1, none⟩ = some (.int .i64 R2) ∧ w7.cell? ⟨hh, 2, none⟩ = some (.slice ma M.length mc)) ∧ (w7.cell? ⟨w.heap.size, 0, none⟩ = some (.int .i64 c) ∧ w7.cell? ⟨w.heap.size, 1, none⟩ = some (.int .i64 r) ∧ w7.cell? ⟨w.heap.size, 2, none⟩ = some (.slice a xs.length cp)) ∧ (w7.cell? ⟨(w.heap.size + 1), 0, none⟩ = some (.int .i64 o.k) ∧ w7.cell? ⟨(w.heap.size + 1), 1, none⟩ = some (.int .i64 o.x) ∧ w7.cell? ⟨(w.heap.size + 1), 2, none⟩ = some (.int .i64 o.y) ∧ w7.cell? ⟨(w.heap.size + 1), 3, none⟩ = some (.int .i64 o.n) ∧ w7.cell? ⟨(w.heap.size + 1), 4, none⟩ = some (.int .i32 o.r) ∧ w7.cell? ⟨(w.heap.size + 1), 5, none⟩ = some (.int .u32 o.f) ∧ w7.cell? ⟨(w.heap.size + 1), 6, none⟩ = some (.int .u32 o.b) ∧ w7.cell? ⟨(w.heap.size + 1), 7, none⟩ = some (.int .u8 o.a) ∧ w7.cell? ⟨(w.heap.size + 1), 8, none⟩ = some (.int .u16 o.l))) := ⟨⟨Own.cell PO7.out 0, Own.cell PO7.out 1, Own.cell PO7.out 2⟩, ⟨Own.cell PH7.out 0, Own.cell PH7.out 1, Own.cell PH7.out 2⟩, ⟨Own.cell G7.out 0, Own.cell G7.out 1, Own.cell G7.out 2⟩, ⟨Own.cell P7.out 0, Own.cell P7.out 1, Own.cell P7.out 2, Own.cell P7.out 3, Own.cell P7.out 4, Own.cell P7.out 5, Own.cell P7.out 6, Own.cell P7.out 7, Own.cell P7.out 8⟩⟩
    clear b7
    refine hK _ _ ?_ ?_
    · exact S7.out
    clear hK K
    (try simp only [Act.put, List.setIfInBounds_toArray, List.set_cons_zero, List.set_cons_succ])
    repeat (first | (refine bits_take (v := ?_) (by rfl) ?_ ?_; rotate_left; (· intro w' hS; obtain ⟨⟨s0, s1, s2⟩, ⟨s3, s4, s5⟩, ⟨s6, s7, s8⟩, ⟨s9, s10, s11, s12, s13, s14, s15, s16, s17⟩⟩ := hS; go_simp; (try (go_ints; try go_simp)); with_reducible rfl); (try simp only [Act.put, List.setIfInBounds_toArray, List.set_cons_zero, List.set_cons_succ])) | (refine bits_skip (by rfl) ?_; (try simp only [Act.put, List.setIfInBounds_toArray, List.set_cons_zero, List.set_cons_succ])))
    refine bits_eff (by rfl) (fun K hK => ?_)
    go_simp
    (try go_ints)
    refine (RVal.as (gmay_any c r va xs.length vc xs _ (cells_of RO7.out) hvc (HT.out.below B7.out)) (congrArg Value.bool HMB.out)).mono ?_
    rintro e w8 ⟨rfl, b8⟩
    have PO8 := Lib.hid (PO7.out.below b8 PO7.out.lt)
    have PH8 := Lib.hid (PH7.out.below b8 PH7.out.lt)
    have G8 := Lib.hid (G7.out.below b8 G7.out.lt)
    have P8 := Lib.hid (P7.out.below b8 P7.out.lt)
    have B8 : Hid (Below w.heap.size w w8) := B7.out.trans (b8.mono B7.out.size)
    have RO8 := Lib.hid (RO7.out.below b8)
    have RM8 := Lib.hid (RM7.out.below b8)
    have BB8 : Hid (Below w2.heap.size w2 w8) := BB7.out.trans (b8.mono BB7.out.size)
    have S8 : Hid ((w8.cell? ⟨ho, 0, none⟩ = some (.int .i64 c) ∧ w8.cell? ⟨ho, 1, none⟩ = some (.int .i64 r) ∧ w8.cell? ⟨ho, 2, none⟩ = some (.slice va xs.length vc)) ∧ (w8.cell? ⟨hh, 0, none⟩ = some (.int .i64 C2) ∧ w8.cell? ⟨hh, 1, none⟩ = some (.int .i64 R2) ∧ w8.cell? ⟨hh, 2, none⟩ = some (.slice ma M.length mc)) ∧ (w8.cell? ⟨w.heap.size, 0, none⟩ = some (.int .i64 c) ∧ w8.cell? ⟨w.heap.size, 1, none⟩ = some (.int .i64 r) ∧ w8.cell? ⟨w.heap.size, 2, none⟩ = some (.slice a xs.length cp)) ∧ (w8.cell? ⟨(w.heap.size + 1), 0, none⟩ = some (.int .i64 o.k) ∧ w8.cell? ⟨(w.heap.size + 1), 1, none⟩ = some (.int .i64 o.x) ∧ w8.cell? ⟨(w.heap.size + 1), 2, none⟩ = some (.int .i64 o.y) ∧ w8.cell? ⟨(w.heap.size + 1), 3, none⟩ = some (.int .i64 o.n) ∧ w8.cell? ⟨(w.heap.size + 1), 4, none⟩ = some (.int .i32 o.r) ∧ w8.cell? ⟨(w.heap.size + 1), 5, none⟩ = some (.int .u32 o.f) ∧ w8.cell? ⟨(w.heap.size + 1), 6, none⟩ = some (.int .u32 o.b) ∧ w8.cell? ⟨(w.heap.size + 1), 7, none⟩ = some (.int .u8 o.a) ∧ w8.cell? ⟨(w.heap.size + 1), 8, none⟩ = some (.int .u16 o.l))) := ⟨⟨Own.cell PO8.out 0, Own.cell PO8.out 1, Own.cell PO8.out 2⟩, ⟨Own.cell PH8.out 0, Own.cell PH8.out 1, Own.cell PH8.out 2⟩, ⟨Own.cell G8.out 0, Own.cell G8.out 1, Own.cell G8.out 2⟩, ⟨Own.cell P8.out 0, Own.cell P8.out 1, Own.cell P8.out 2, Own.cell P8.out 3, Own.cell P8.out 4, Own.cell P8.out 5, Own.cell P8.out 6, Own.cell P8.out 7, Own.cell P8.out 8⟩⟩
    clear b8
    refine hK _ _ ?_ ?_
    · exact S8.out
    clear hK K
    (try simp only [Act.put, List.setIfInBounds_toArray, List.set_cons_zero, List.set_cons_succ])
    repeat (first | (refine bits_take (v := ?_) (by rfl) ?_ ?_; rotate_left; (· intro w' hS; obtain ⟨⟨s0, s1, s2⟩, ⟨s3, s4, s5⟩, ⟨s6, s7, s8⟩, ⟨s9, s10, s11, s12, s13, s14, s15, s16, s17⟩⟩ := hS; go_simp; (try (go_ints; try go_simp)); with_reducible rfl); (try simp only [Act.put, List.setIfInBounds_toArray, List.set_cons_zero, List.set_cons_succ])) | (refine bits_skip (by rfl) ?_; (try simp only [Act.put, List.setIfInBounds_toArray, List.set_cons_zero, List.set_cons_succ])))
    refine bits_eff (by rfl) (fun K hK => ?_)
    go_simp
    (try go_ints)
    refine (want_all o hk c r a xs.length cp xs _ (HL.out.below B8.out) hcp).mono ?_
    rw [HC2.out, HR2.out, HM.out]
    rintro e w9 ⟨v9, rfl, r9, b9⟩
    obtain ⟨ta, tc, rfl, tl⟩ := r9.cells
    have TC9 := Lib.hid tl
    have PO9 := Lib.hid (PO8.out.below b9 PO8.out.lt)
    have PH9 := Lib.hid (PH8.out.below b9 PH8.out.lt)
    have G9 := Lib.hid (G8.out.below b9 G8.out.lt)
    have P9 := Lib.hid (P8.out.below b9 P8.out.lt)
    have B9 : Hid (Below w.heap.size w w9) := B8.out.trans (b9.mono B8.out.size)
    have RO9 := Lib.hid (RO8.out.below b9)
    have RM9 := Lib.hid (RM8.out.below b9)
    have BB9 : Hid (Below w2.heap.size w2 w9) := BB8.out.trans (b9.mono BB8.out.size)
    have S9 : Hid ((w9.cell? ⟨ho, 0, none⟩ = some (.int .i64 c) ∧ w9.cell? ⟨ho, 1, none⟩ = some (.int .i64 r) ∧ w9.cell? ⟨ho, 2, none⟩ = some (.slice va xs.length vc)) ∧ (w9.cell? ⟨hh, 0, none⟩ = some (.int .i64 C2) ∧ w9.cell? ⟨hh, 1, none⟩ = some (.int .i64 R2) ∧ w9.cell? ⟨hh, 2, none⟩ = some (.slice ma M.length mc)) ∧ (w9.cell? ⟨w.heap.size, 0, none⟩ = some (.int .i64 c) ∧ w9.cell? ⟨w.heap.size, 1, none⟩ = some (.int .i64 r) ∧ w9.cell? ⟨w.heap.size, 2, none⟩ = some (.slice a xs.length cp)) ∧ (w9.cell? ⟨(w.heap.size + 1), 0, none⟩ = some (.int .i64 o.k) ∧ w9.cell? ⟨(w.heap.size + 1), 1, none⟩ = some (.int .i64 o.x) ∧ w9.cell? ⟨(w.heap.size + 1), 2, none⟩ = some (.int .i64 o.y) ∧ w9.cell? ⟨(w.heap.size + 1), 3, none⟩ = some (.int .i64 o.n) ∧ w9.cell? ⟨(w.heap.size + 1), 4, none⟩ = some (.int .i32 o.r) ∧ w9.cell? ⟨(w.heap.size + 1), 5, none⟩ = some (.int .u32 o.f) ∧ w9.cell? ⟨(w.heap.size + 1), 6, none⟩ = some (.int .u32 o.b) ∧ w9.cell? ⟨(w.heap.size + 1), 7, none⟩ = some (.int .u8 o.a) ∧ w9.cell? ⟨(w.heap.size + 1), 8, none⟩ = some (.int .u16 o.l))) := ⟨⟨Own.cell PO9.out 0, Own.cell PO9.out 1, Own.cell PO9.out 2⟩, ⟨Own.cell PH9.out 0, Own.cell PH9.out 1, Own.cell PH9.out 2⟩, ⟨Own.cell G9.out 0, Own.cell G9.out 1, Own.cell G9.out 2⟩, ⟨Own.cell P9.out 0, Own.cell P9.out 1, Own.cell P9.out 2, Own.cell P9.out 3, Own.cell P9.out 4, Own.cell P9.out 5, Own.cell P9.out 6, Own.cell P9.out 7, Own.cell P9.out 8⟩⟩
    clear b9 r9 tl
    refine hK _ _ ?_ ?_
    · exact S9.out
    clear hK K
    (try simp only [Act.put, List.setIfInBounds_toArray, List.set_cons_zero, List.set_cons_succ])
    repeat (first | (refine bits_take (v := ?_) (by rfl) ?_ ?_; rotate_left; (· intro w' hS; obtain ⟨⟨s0, s1, s2⟩, ⟨s3, s4, s5⟩, ⟨s6, s7, s8⟩, ⟨s9, s10, s11, s12, s13, s14, s15, s16, s17⟩⟩ := hS; go_simp; (try (go_ints; try go_simp)); with_reducible rfl); (try simp only [Act.put, List.setIfInBounds_toArray, List.set_cons_zero, List.set_cons_succ])) | (refine bits_skip (by rfl) ?_; (try simp only [Act.put, List.setIfInBounds_toArray, List.set_cons_zero, List.set_cons_succ])))
    refine bits_eff (by rfl) (fun K hK => ?_)
    go_simp
    (try go_ints)
    refine (RVal.as (sameg_any C2 R2 C2 R2 ma ta M.length mc M.length tc M M _ (cells_of RM9.out) TC9.out) (congrArg Value.bool (sameG_self C2 R2 M))).mono ?_
    rintro e w10 ⟨rfl, b10⟩
    have PO10 := Lib.hid (PO9.out.below b10 PO9.out.lt)
    have PH10 := Lib.hid (PH9.out.below b10 PH9.out.lt)
    have G10 := Lib.hid (G9.out.below b10 G9.out.lt)
    have P10 := Lib.hid (P9.out.below b10 P9.out.lt)
    have B10 : Hid (Below w.heap.size w w10) := B9.out.trans (b10.mono B9.out.size)
    have RO10 := Lib.hid (RO9.out.below b10)
    have RM10 := Lib.hid (RM9.out.below b10)
    have BB10 : Hid (Below w2.heap.size w2 w10) := BB9.out.trans (b10.mono BB9.out.size)
    have S10 : Hid ((w10.cell? ⟨ho, 0, none⟩ = some (.int .i64 c) ∧ w10.cell? ⟨ho, 1, none⟩ = some (.int .i64 r) ∧ w10.cell? ⟨ho, 2, none⟩ = some (.slice va xs.length vc)) ∧ (w10.cell? ⟨hh, 0, none⟩ = some (.int .i64 C2) ∧ w10.cell? ⟨hh, 1, none⟩ = some (.int .i64 R2) ∧ w10.cell? ⟨hh, 2, none⟩ = some (.slice ma M.length mc)) ∧ (w10.cell? ⟨w.heap.size, 0, none⟩ = some (.int .i64 c) ∧ w10.cell? ⟨w.heap.size, 1, none⟩ = some (.int .i64 r) ∧ w10.cell? ⟨w.heap.size, 2, none⟩ = some (.slice a xs.length cp)) ∧ (w10.cell? ⟨(w.heap.size + 1), 0, none⟩ = some (.int .i64 o.k) ∧ w10.cell? ⟨(w.heap.size + 1), 1, none⟩ = some (.int .i64 o.x) ∧ w10.cell? ⟨(w.heap.size + 1), 2, none⟩ = some (.int .i64 o.y) ∧ w10.cell? ⟨(w.heap.size + 1), 3, none⟩ = some (.int .i64 o.n) ∧ w10.cell? ⟨(w.heap.size + 1), 4, none⟩ = some (.int .i32 o.r) ∧ w10.cell? ⟨(w.heap.size + 1), 5, none⟩ = some (.int .u32 o.f) ∧ w10.cell? ⟨(w.heap.size + 1), 6, none⟩ = some (.int .u32 o.b) ∧ w10.cell? ⟨(w.heap.size + 1), 7, none⟩ = some (.int .u8 o.a) ∧ w10.cell? ⟨(w.heap.size + 1), 8, none⟩ = some (.int .u16 o.l))) := ⟨⟨Own.cell PO10.out 0, Own.cell PO10.out 1, Own.cell PO10.out 2⟩, ⟨Own.cell PH10.out 0, Own.cell PH10.out 1, Own.cell PH10.out 2⟩, ⟨Own.cell G10.out 0, Own.cell G10.out 1, Own.cell G10.out 2⟩, ⟨Own.cell P10.out 0, Own.cell P10.out 1, Own.cell P10.out 2, Own.cell P10.out 3, Own.cell P10.out 4, Own.cell P10.out 5, Own.cell P10.out 6, Own.cell P10.out 7, Own.cell P10.out 8⟩⟩
    clear b10
    refine hK _ _ ?_ ?_
    · exact S10.out
    clear hK K
    (try simp only [Act.put, List.setIfInBounds_toArray, List.set_cons_zero, List.set_cons_succ])
    repeat (first | (refine bits_take (v := ?_) (by rfl) ?_ ?_; rotate_left; (· intro w' hS; obtain ⟨⟨s0, s1, s2⟩, ⟨s3, s4, s5⟩, ⟨s6, s7, s8⟩, ⟨s9, s10, s11, s12, s13, s14, s15, s16, s17⟩⟩ := hS; go_simp; (try (go_ints; try go_simp)); with_reducible rfl); (try simp only [Act.put, List.setIfInBounds_toArray, List.set_cons_zero, List.set_cons_succ])) | (refine bits_skip (by rfl) ?_; (try simp only [Act.put, List.setIfInBounds_toArray, List.set_cons_zero, List.set_cons_succ])))
    refine bits_nil ?_
    have hML : M.length ≤ 9223372036854775807 := (cells_of RM10.out).2.1
    have HL0 : Hid (DlRel w2 hh C2 R2 ma M.length mc w10) := ⟨⟨M, RM10.out⟩, PH10.out, BB10.out⟩
    clear S6 S7 S8 S9 S10 B6 B7 B8 B9 RO6 RO7 RO8 RO9 RO10 RM6 RM7 RM8 RM9 BB6 BB7 BB8 BB9 PO6 PO7 PO8 PO9 PO10 PH6 PH7 PH8 PH9 G6 G7 G8 G9 G10 P6 P7 P8 P9 P10 TC9
    have g0 := Own.cell PH10.out 0
    have g1 := Own.cell PH10.out 1
    have g2 := Own.cell PH10.out 2
    simp only [List.getElem?_toArray, List.getElem?_cons_zero, List.getElem?_cons_succ] at g0 g1 g2
    go_wp2_with fail
    clear g0 g1 g2
    go_loopw [54] (fun v wr => ∃ q : Nat, q ≤ M.length ∧ v = .int .i64 q ∧ Hid (DlRel w2 hh C2 R2 ma M.length mc wr)) (fun v _ => M.length - (intOf v).toNat)
    case atStart => exact ⟨0, by omega, rfl, HL0⟩
    case round =>
      obtain ⟨q, hq1, rfl, HR⟩ := hrel
      rename World => wr
      clear HL0
      by_cases hq : q < M.length
      · have hdq : decide (q < M.length) = true := decide_eq_true hq
        have HQ : Hid (q < M.length) := hq
        obtain ⟨⟨ys, hy⟩, hown, hbel⟩ := HR.out
        obtain ⟨gh, rfl⟩ := crow_addr hy (by omega)
        obtain ⟨z, hz⟩ : ∃ z, ys.getD q Go.Proofs.YtlhcehealjdbdaaDoor.g0 = z := ⟨_, rfl⟩
        obtain ⟨hat, hgb, _⟩ := crow_at hy hq
        rw [hz] at hat
        have HY := Lib.hid hy
        have HOW := Lib.hid hown
        have HBE := Lib.hid hbel
        have HZ := Lib.hid hz
        have HAT := Lib.hid hat.1
        have hgc := crow_cap hy (by omega)
        have hi1 : (0 : Int) ≤ (q : Int) := by omega
        have hi2 : (q : Int) < (M.length : Int) := by omega
        clear hy hown hbel hz hat HR RM10 PH10
        go_upto_region 11 with fail
        have HYD : Hid (CRow wr.drew w2.heap.size (.slice (some ⟨gh, 0, none⟩) M.length mc) ys) := HY.out
        have HOD : Hid (Own wr.drew hh 49 #[.int .i64 C2, .int .i64 R2, .slice (some ⟨gh, 0, none⟩) M.length mc]) := HOW.out
        have HBD : Hid (Below w2.heap.size w2 wr.drew) := below_drewN HBE.out 1
        have S11 : Hid ((wr.drew.cell? ⟨hh, 0, none⟩ = some (.int .i64 C2) ∧ wr.drew.cell? ⟨hh, 1, none⟩ = some (.int .i64 R2) ∧ wr.drew.cell? ⟨hh, 2, none⟩ = some (.slice (some ⟨gh, 0, none⟩) M.length mc)) ∧ wr.drew.cell? ⟨gh, q * 6, none⟩ = some (.int .i32 z.r)) := ⟨⟨Own.cell HOD.out 0, Own.cell HOD.out 1, Own.cell HOD.out 2⟩, HAT.out⟩
        refine wp_region_bits_at (S := fun w' => (w'.cell? ⟨hh, 0, none⟩ = some (.int .i64 C2) ∧ w'.cell? ⟨hh, 1, none⟩ = some (.int .i64 R2) ∧ w'.cell? ⟨hh, 2, none⟩ = some (.slice (some ⟨gh, 0, none⟩) M.length mc)) ∧ w'.cell? ⟨gh, q * 6, none⟩ = some (.int .i32 z.r)) [(0, true), (1, true), (2, true), (3, true), (4, true), (5, true), (6, true), (7, true), (8, true), (9, true), (10, true), (11, true), (12, false)] [12] (by kernel_rfl) (by kernel_rfl) (fun c a d v w h => by cases d <;> exact h) S11.out ?_
        simp only [bits_, bitOf, List.getElem?_cons_zero, List.getElem?_cons_succ, List.contains_nil, List.contains_cons, Nat.reduceBEq, Bool.or_false]
        repeat (first | (refine bits_take (v := ?_) (by rfl) ?_ ?_; rotate_left; (· intro w' hS; obtain ⟨⟨s0, s1, s2⟩, s3⟩ := hS; go_simp; (try (go_ints; try go_simp)); with_reducible rfl); (try simp only [Act.put, List.setIfInBounds_toArray, List.set_cons_zero, List.set_cons_succ])) | (refine bits_skip (by rfl) ?_; (try simp only [Act.put, List.setIfInBounds_toArray, List.set_cons_zero, List.set_cons_succ])))
        refine bits_tail (by rfl) (fun K hK => ?_)
        refine grune_op _ _ rfl (k := q) (z := z) rfl rfl HYD.out hq HZ.out fun w11 r11 k11 => ?_
        refine hK _ _ ?_
        clear hK K
        (try simp only [Act.put])
        repeat (first | (refine bits_take (v := ?_) (by rfl) ?_ ?_; rotate_left; (· intro w' hS; obtain ⟨⟨s0, s1, s2⟩, s3⟩ := hS; go_simp; (try (go_ints; try go_simp)); with_reducible rfl); (try simp only [Act.put, List.setIfInBounds_toArray, List.set_cons_zero, List.set_cons_succ])) | (refine bits_skip (by rfl) ?_; (try simp only [Act.put, List.setIfInBounds_toArray, List.set_cons_zero, List.set_cons_succ])))
        refine bits_nil ?_
        have L11 : Hid (DlRel w2 hh C2 R2 (some ⟨gh, 0, none⟩) M.length mc w11) := ⟨⟨_, r11⟩, HOD.out.grown k11 (fun e => (apart_own HYD.out HOD.out (by decide)).elim (fun q => by cases q) (fun q => q e.symm)), below_grown HBD.out k11 hgb HBD.out.size⟩
        clear r11 k11
        go_wp2_with fail
        go_roundw
        case rel => exact ⟨q + 1, HQ.out, by go_num, L11⟩
        case measure => have := HQ.out; simp [intOf]; omega
      · obtain rfl : M.length = q := by omega
        have hdq : decide (M.length < M.length) = false := decide_eq_false hq
        have PO11 := Lib.hid (HO2.out.below HR.out.2.2 HO2.out.lt)
        have G11 := Lib.hid (G2.out.below HR.out.2.2 G2.out.lt)
        have RO11 := Lib.hid (R2'.out.below HR.out.2.2)
        have B11 : Hid (Below w.heap.size w wr) := B2.out.trans (HR.out.2.2.mono B2.out.size)
        clear hq
        have g0 := Own.cell PO11.out 0
        have g1 := Own.cell PO11.out 1
        have g2 := Own.cell PO11.out 2
        simp only [List.getElem?_toArray, List.getElem?_cons_zero, List.getElem?_cons_succ] at g0 g1 g2
        have h0 := Own.cell G11.out 0
        have h1 := Own.cell G11.out 1
        have h2 := Own.cell G11.out 2
        simp only [List.getElem?_toArray, List.getElem?_cons_zero, List.getElem?_cons_succ] at h0 h1 h2
        go_wp2_with fail
        refine (RVal.as (sameg_any c r c r va a xs.length vc xs.length cp xs xs _ (cells_of RO11.out) (HL.out.below B11.out)) (congrArg Value.bool (sameG_self c r xs))).mono ?_
        rintro e w12 ⟨rfl, b12⟩
        have B12 : Hid (Below w.heap.size w w12) := B11.out.trans (b12.mono B11.out.size)
        clear b12
        go_wp2_with fail
        go_ret
        exact ⟨rfl, B12.out⟩
end Go.Proofs.YtlhcehealjdbdaaDoor
