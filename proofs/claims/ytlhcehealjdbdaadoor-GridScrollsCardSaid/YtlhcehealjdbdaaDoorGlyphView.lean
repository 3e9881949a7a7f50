/- Cells, pens and rows of cells that came in, read as data. Placeholders: C the cell's type, P the pen's, K the colour's, R the rune's, U the byte's, L the link's, S the row's. -/
import Derived.Test.YtlhcehealjdbdaaDoorGlyph
import Derived.WalkKit
import Derived.ProofKit
import Derived.OpenShut
import Derived.Deep.Slices
import Derived.Deep.Strs
import Derived.Deep.Fields
import Derived.ChangeSame
namespace Go.Proofs.YtlhcehealjdbdaaDoor
open Go.ChangeShapes Go.WideShapes Go.ChangeAt Go.RowKit Go.Deep
/-- The values are in their kinds' bounds. -/
def GWf (c : Glyph) : Prop := -2147483648 ≤ c.r ∧ c.r ≤ 2147483647 ∧ 0 ≤ c.w ∧ c.w ≤ 255 ∧ 0 ≤ c.f ∧ c.f ≤ 4294967295 ∧ 0 ≤ c.b ∧ c.b ≤ 4294967295 ∧ 0 ≤ c.a ∧ c.a ≤ 255 ∧ 0 ≤ c.l ∧ c.l ≤ 65535
theorem g_i32 {n : Int} (h : (Lit.int .i32 n).wf = true) : -2147483648 ≤ n ∧ n ≤ 2147483647 := by
  simp [Lit.wf, IntKind.min, IntKind.max, IntKind.signed, IntKind.bits] at h
  omega
theorem g_u8 {n : Int} (h : (Lit.int .u8 n).wf = true) : 0 ≤ n ∧ n ≤ 255 := by
  simp [Lit.wf, IntKind.min, IntKind.max, IntKind.signed, IntKind.bits] at h
  omega
theorem g_u16 {n : Int} (h : (Lit.int .u16 n).wf = true) : 0 ≤ n ∧ n ≤ 65535 := by
  simp [Lit.wf, IntKind.min, IntKind.max, IntKind.signed, IntKind.bits] at h
  omega
theorem g_u32 {n : Int} (h : (Lit.int .u32 n).wf = true) : 0 ≤ n ∧ n ≤ 4294967295 := by
  simp [Lit.wf, IntKind.min, IntKind.max, IntKind.signed, IntKind.bits] at h
  omega
theorem gcC : Tryd.prog.cellsOf 28 = 6 := by kernel_rfl
theorem gcP : Tryd.prog.cellsOf 26 = 4 := by kernel_rfl
theorem gcK : Tryd.prog.cellsOf 23 = 1 := by kernel_rfl
theorem gcR : Tryd.prog.cellsOf 21 = 1 := by kernel_rfl
theorem gcU : Tryd.prog.cellsOf 5 = 1 := by kernel_rfl
theorem gcL : Tryd.prog.cellsOf 24 = 1 := by kernel_rfl
theorem list4 {cs : List Value} (h : cs.length = 4) : ∃ a b c d, cs = [a, b, c, d] := by
  match cs, h with
  | [a, b, c, d], _ => exact ⟨a, b, c, d, rfl⟩
theorem list6 {cs : List Value} (h : cs.length = 6) : ∃ a b c d e f, cs = [a, b, c, d, e, f] := by
  match cs, h with
  | [a, b, c, d, e, f], _ => exact ⟨a, b, c, d, e, f, rfl⟩
section
variable {H : Type} {enc : TypeId × Value → H} {W : World} {base : Nat} {spare : Nat → Bool} {held : Bool} {fuel : Nat}
theorem open_pen {cs : List Value} {x : DataW H × List MemPlace} (h : DataW.trod enc Tryd.prog W base spare held fuel 26 cs = some x) :
    ∃ f b a l : Int, cs = [.int .u32 f, .int .u32 b, .int .u8 a, .int .u16 l] ∧ 0 ≤ f ∧ f ≤ 4294967295 ∧ 0 ≤ b ∧ b ≤ 4294967295 ∧ 0 ≤ a ∧ a ≤ 255 ∧ 0 ≤ l ∧ l ≤ 65535 := by
  obtain ⟨xs, n, _, _, hl, _, hf⟩ := DataW.trod_struct Tryd.underlying26 h
  rw [gcP] at hl
  obtain ⟨c0, c1, c2, c3, rfl⟩ := list4 hl
  have h0 : DataW.trod enc Tryd.prog W base spare held n 23 [c0] = xs[0]? := by simpa [gcK] using hf 0 _ rfl
  have h1 : DataW.trod enc Tryd.prog W base spare held n 23 [c1] = xs[1]? := by simpa [gcK] using hf 1 _ rfl
  have h2 : DataW.trod enc Tryd.prog W base spare held n 5 [c2] = xs[2]? := by simpa [gcU] using hf 2 _ rfl
  have h3 : DataW.trod enc Tryd.prog W base spare held n 24 [c3] = xs[3]? := by simpa [gcL] using hf 3 _ rfl
  have hx : xs.length = 4 := by assumption
  rw [List.getElem?_eq_getElem (by omega)] at h0 h1 h2 h3
  obtain ⟨f, e0, _, w0⟩ := DataW.trod_int Tryd.underlying23 h0
  obtain ⟨b, e1, _, w1⟩ := DataW.trod_int Tryd.underlying23 h1
  obtain ⟨a, e2, _, w2⟩ := DataW.trod_int Tryd.underlying5 h2
  obtain ⟨l, e3, _, w3⟩ := DataW.trod_int Tryd.underlying24 h3
  simp only [List.cons.injEq, and_true] at e0 e1 e2 e3
  subst e0 e1 e2 e3
  have b0 := g_u32 w0
  have b1 := g_u32 w1
  have b2 := g_u8 w2
  have b3 := g_u16 w3
  exact ⟨f, b, a, l, rfl, b0.1, b0.2, b1.1, b1.2, b2.1, b2.2, b3.1, b3.2⟩
theorem open_glyph {cs : List Value} {x : DataW H × List MemPlace} (h : DataW.trod enc Tryd.prog W base spare held fuel 28 cs = some x) : ∃ c : Glyph, cs = c.cells ∧ GWf c := by
  obtain ⟨xs, n, _, _, hl, _, hf⟩ := DataW.trod_struct Tryd.underlying28 h
  rw [gcC] at hl
  obtain ⟨c0, c1, c2, c3, c4, c5, rfl⟩ := list6 hl
  have h0 : DataW.trod enc Tryd.prog W base spare held n 21 [c0] = xs[0]? := by simpa [gcR] using hf 0 _ rfl
  have h1 : DataW.trod enc Tryd.prog W base spare held n 5 [c1] = xs[1]? := by simpa [gcU] using hf 1 _ rfl
  have h2 : DataW.trod enc Tryd.prog W base spare held n 26 [c2, c3, c4, c5] = xs[2]? := by simpa [gcP] using hf 2 _ rfl
  have hx : xs.length = 3 := by assumption
  rw [List.getElem?_eq_getElem (by omega)] at h0 h1 h2
  obtain ⟨r, e0, _, w0⟩ := DataW.trod_int Tryd.underlying21 h0
  obtain ⟨w, e1, _, w1⟩ := DataW.trod_int Tryd.underlying5 h1
  obtain ⟨f, b, a, l, e2, p0, p1, p2, p3, p4, p5, p6, p7⟩ := open_pen h2
  simp only [List.cons.injEq, and_true] at e0 e1 e2
  obtain ⟨rfl, rfl, rfl, rfl⟩ := e2
  subst e0 e1
  have b0 := g_i32 w0
  have b1 := g_u8 w1
  exact ⟨⟨r, w, f, b, a, l⟩, rfl, b0.1, b0.2, b1.1, b1.2, p0, p1, p2, p3, p4, p5, p6, p7⟩
end
theorem gchoose_lt {α : Type} {n : Nat} [Inhabited α] {Q : Nat → α → Prop} (h : ∀ i, i < n → ∃ x, Q i x) : ∃ f : Nat → α, ∀ i, i < n → Q i (f i) := by
  have h2 : ∀ i, ∃ x, i < n → Q i x := fun i => by
    by_cases hi : i < n
    · obtain ⟨x, hx⟩ := h i hi
      exact ⟨x, fun _ => hx⟩
    · exact ⟨default, fun k => absurd k hi⟩
  exact ⟨fun i => Classical.choose (h2 i), fun i => Classical.choose_spec (h2 i)⟩
section
variable {H : Type} {enc : TypeId × Value → H} {W : World} {base : Nat} {v : Value} {d : DataW H} {p : List MemPlace}
theorem view_cells {t : TypeId} (ht : Tryd.prog.underlying t = some (.slice 28)) (u : Value.okWide Tryd.prog W .any base t v) (h : DataW.Trod enc Tryd.prog W 0 (fun _ => true) true t v d p) :
    ∃ (a : Option Addr) (n c : Nat) (xs : List Glyph), v = .slice a n c ∧ Cells W a n xs ∧ n ≤ c ∧ ∀ x ∈ xs, GWf x := by
  obtain ⟨a, len, cap, rfl⟩ := okWide_slice ht u
  obtain ⟨fuel, hf⟩ := h
  rcases open_slice ht hf with ⟨hcs, _⟩ | ⟨x, l, c, m, n, D, Pl, hcs, _, hl, hm, hmm, _, hx⟩
  · simp [Value.cells] at hcs
    obtain ⟨rfl, rfl, rfl⟩ := hcs
    exact ⟨_, _, _, [], rfl, Cells.none, Nat.le_refl _, by simp⟩
  · simp [Value.cells] at hcs
    obtain ⟨rfl, rfl, rfl⟩ := hcs
    simp only [if_true] at hmm
    subst hmm
    have each : ∀ i, i < len → ∃ g : Glyph, (∀ j u, g.cells[j]? = some u → W.cell? ((x.add (i * 6)).add j) = some u) ∧ GWf g := by
      intro i hi
      obtain ⟨cs', h1, h2⟩ := hx i (by omega)
      rw [gcC] at h1
      obtain ⟨g, rfl, hg⟩ := open_glyph h2
      obtain ⟨_, _, hat⟩ := World.cells?_some h1
      exact ⟨g, fun j u hj => by
        have hj6 : j < 6 := (List.getElem?_eq_some_iff.1 hj).1
        rw [hat j hj6, hj], hg⟩
    have : Inhabited Glyph := ⟨g0⟩
    obtain ⟨f, hf'⟩ := gchoose_lt each
    refine ⟨_, _, _, (List.range len).map f, rfl, ⟨by simp, by unfold maxLen at hm; omega, fun h0 => ?_⟩, hl, fun y hy => ?_⟩
    · obtain ⟨b, off, spot⟩ := x
      have h1 := (hf' 0 h0).1 0 _ rfl
      have hspot : spot = none := by simpa [Addr.add] using World.cell?_spot h1
      subst hspot
      refine ⟨b, off, rfl, Keep.lt (p := ⟨b, off, none⟩) (by simp [Addr.add] at h1; rw [h1]; rfl), fun i hi => ?_⟩
      have key := (hf' i hi).1
      rw [List.getD_eq_getElem?_getD, List.getElem?_map, List.getElem?_range hi]
      simp only [Option.map_some, Option.getD_some]
      have k2 : ∀ j u, (f i).cells[j]? = some u → W.cell? ⟨b, off + i * 6 + j, none⟩ = some u := fun j u hj => by
        have := key j u hj
        rwa [add_plain, add_plain] at this
      exact ⟨k2 0 _ rfl, k2 1 _ rfl, k2 2 _ rfl, k2 3 _ rfl, k2 4 _ rfl, k2 5 _ rfl⟩
    · obtain ⟨i, hi, rfl⟩ := List.mem_map.1 hy
      exact (hf' i (List.mem_range.1 hi)).2
theorem view_pen (u : Value.okWide Tryd.prog W .any base 26 v) (h : DataW.Trod enc Tryd.prog W 0 (fun _ => true) true 26 v d p) :
    ∃ f b a l : Int, v = .agg #[.int .u32 f, .int .u32 b, .int .u8 a, .int .u16 l] ∧ 0 ≤ f ∧ f ≤ 4294967295 ∧ 0 ≤ b ∧ b ≤ 4294967295 ∧ 0 ≤ a ∧ a ≤ 255 ∧ 0 ≤ l ∧ l ≤ 65535 := by
  obtain ⟨cs, rfl, _⟩ := okWide_struct Tryd.underlying26 u
  obtain ⟨fuel, hf⟩ := h
  obtain ⟨f, b, a, l, hc, hb⟩ := open_pen hf
  refine ⟨f, b, a, l, ?_, hb⟩
  obtain ⟨cs⟩ := cs
  simp [Value.cells] at hc
  rw [hc]
theorem view_glyph (u : Value.okWide Tryd.prog W .any base 28 v) (h : DataW.Trod enc Tryd.prog W 0 (fun _ => true) true 28 v d p) :
    ∃ c : Glyph, v = .agg #[.int .i32 c.r, .int .u8 c.w, .int .u32 c.f, .int .u32 c.b, .int .u8 c.a, .int .u16 c.l] ∧ GWf c := by
  obtain ⟨cs, rfl, _⟩ := okWide_struct Tryd.underlying28 u
  obtain ⟨fuel, hf⟩ := h
  obtain ⟨c, hc, hb⟩ := open_glyph hf
  refine ⟨c, ?_, hb⟩
  obtain ⟨cs⟩ := cs
  simp [Value.cells] at hc
  rw [hc]
  rfl
end
end Go.Proofs.YtlhcehealjdbdaaDoor
