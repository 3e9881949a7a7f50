/- A call that came in, read as data. -/
import Derived.Test.YtlhcehealjdbdaaDoorGlyphView
import Derived.Test.YtlhcehealjdbdaaDoorDo
import Derived.WalkKit
import Derived.ProofKit
import Derived.OpenShut
import Derived.Deep.Slices
import Derived.Deep.Strs
import Derived.Deep.Fields
import Derived.ChangeSame
namespace Go.Proofs.YtlhcehealjdbdaaDoor
open Go.ChangeShapes Go.WideShapes Go.ChangeAt Go.RowKit Go.Deep
set_option linter.unusedSimpArgs false
set_option linter.unusedVariables false

theorem gcO : Tryd.prog.cellsOf 43 = 8 := by kernel_rfl
theorem gcI : Tryd.prog.cellsOf 3 = 1 := by kernel_rfl
theorem g_i64 {n : Int} (h : (Lit.int .i64 n).wf = true) : -9223372036854775808 ≤ n ∧ n ≤ 9223372036854775807 := by
  simp [Lit.wf, IntKind.min, IntKind.max, IntKind.signed, IntKind.bits] at h
  omega
theorem list8 {cs : List Value} (h : cs.length = 8) : ∃ a b c d e f g i, cs = [a, b, c, d, e, f, g, i] := by
  match cs, h with
  | [a, b, c, d, e, f, g, i], _ => exact ⟨a, b, c, d, e, f, g, i, rfl⟩
def Op8.vals (o : Op8) : List Value := [.int .i64 o.k, .int .i64 o.x, .int .i64 o.n, .int .i32 o.r, .int .u32 o.f, .int .u32 o.b, .int .u8 o.a, .int .u16 o.l]
/-- The values are in their kinds' bounds. -/
def OWf (o : Op8) : Prop := (-9223372036854775808 ≤ o.k ∧ o.k ≤ 9223372036854775807) ∧ (-9223372036854775808 ≤ o.x ∧ o.x ≤ 9223372036854775807) ∧ (-9223372036854775808 ≤ o.n ∧ o.n ≤ 9223372036854775807) ∧ (-2147483648 ≤ o.r ∧ o.r ≤ 2147483647)
section
variable {H : Type} {enc : TypeId × Value → H} {W : World} {base : Nat} {spare : Nat → Bool} {held : Bool} {fuel : Nat}
theorem open_op {cs : List Value} {x : DataW H × List MemPlace} (h : DataW.trod enc Tryd.prog W base spare held fuel 43 cs = some x) : ∃ o : Op8, cs = o.vals ∧ OWf o := by
  obtain ⟨xs, n, _, _, hl, _, hf⟩ := DataW.trod_struct Tryd.underlying43 h
  rw [gcO] at hl
  obtain ⟨c0, c1, c2, c3, c4, c5, c6, c7, rfl⟩ := list8 hl
  have h0 : DataW.trod enc Tryd.prog W base spare held n 3 [c0] = xs[0]? := by simpa [gcI] using hf 0 _ rfl
  have h1 : DataW.trod enc Tryd.prog W base spare held n 3 [c1] = xs[1]? := by simpa [gcI] using hf 1 _ rfl
  have h2 : DataW.trod enc Tryd.prog W base spare held n 3 [c2] = xs[2]? := by simpa [gcI] using hf 2 _ rfl
  have h3 : DataW.trod enc Tryd.prog W base spare held n 21 [c3] = xs[3]? := by simpa [gcR] using hf 3 _ rfl
  have h4 : DataW.trod enc Tryd.prog W base spare held n 26 [c4, c5, c6, c7] = xs[4]? := by simpa [gcP] using hf 4 _ rfl
  have hx : xs.length = 5 := by assumption
  rw [List.getElem?_eq_getElem (by omega)] at h0 h1 h2 h3 h4
  obtain ⟨k, e0, _, w0⟩ := DataW.trod_int Tryd.underlying3 h0
  obtain ⟨x, e1, _, w1⟩ := DataW.trod_int Tryd.underlying3 h1
  obtain ⟨m, e2, _, w2⟩ := DataW.trod_int Tryd.underlying3 h2
  obtain ⟨r, e3, _, w3⟩ := DataW.trod_int Tryd.underlying21 h3
  obtain ⟨f, b, a, l, e4, _⟩ := open_pen h4
  simp only [List.cons.injEq, and_true] at e0 e1 e2 e3 e4
  obtain ⟨rfl, rfl, rfl, rfl⟩ := e4
  subst e0 e1 e2 e3
  exact ⟨⟨k, x, m, r, f, b, a, l⟩, rfl, g_i64 w0, g_i64 w1, g_i64 w2, g_i32 w3⟩
end
section
variable {H : Type} {enc : TypeId × Value → H} {W : World} {base : Nat} {v : Value} {d : DataW H} {p : List MemPlace}
theorem view_op (u : Value.okWide Tryd.prog W .any base 43 v) (h : DataW.Trod enc Tryd.prog W 0 (fun _ => true) true 43 v d p) :
    ∃ o : Op8, v = .agg #[.int .i64 o.k, .int .i64 o.x, .int .i64 o.n, .int .i32 o.r, .int .u32 o.f, .int .u32 o.b, .int .u8 o.a, .int .u16 o.l] ∧ OWf o := by
  obtain ⟨cs, rfl, _⟩ := okWide_struct Tryd.underlying43 u
  obtain ⟨fuel, hf⟩ := h
  obtain ⟨c, hc, hb⟩ := open_op hf
  refine ⟨c, ?_, hb⟩
  obtain ⟨cs⟩ := cs
  simp [Value.cells] at hc
  rw [hc]
  rfl
end
end Go.Proofs.YtlhcehealjdbdaaDoor
