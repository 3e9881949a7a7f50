/- How an offer, a choice and a number read as arguments. -/
import Derived.Test.YtblhbhhgpfcfbaaRows
import Derived.WalkKit
import Derived.ProofKit
import Derived.OpenShut
import Derived.Lib.SmallJoins
namespace Go.Proofs.Ytblhbhhgpfcfbaa
open Go.ChangeShapes Go.WideShapes Go.ChangeAt Go.RowKit Go.Joins

theorem Try.cells24 : Try.prog.cellsOf 24 = 2 := by kernel_rfl
theorem Try.cells26 : Try.prog.cellsOf 26 = 2 := by kernel_rfl
theorem i64_of {n : Int} (h : (Lit.int .i64 n).wf = true) : -9223372036854775808 ≤ n ∧ n ≤ 9223372036854775807 := by
  simp [Lit.wf, IntKind.min, IntKind.max, IntKind.signed, IntKind.bits] at h
  omega
theorem u32_of {n : Int} (h : (Lit.int .u32 n).wf = true) : ∃ m : Nat, n = m ∧ m < 4294967296 := by
  simp [Lit.wf, IntKind.min, IntKind.max, IntKind.signed, IntKind.bits] at h
  exact ⟨n.toNat, by omega, by omega⟩
section
variable {H : Type} {enc : TypeId × Value → H} {W : World} {base : Nat} {v : Value} {d : DataW H} {p : List MemPlace}
theorem view_offer (u : Value.okWide Try.prog W .any base 24 v) (h : DataW.Trod enc Try.prog W 0 (fun _ => true) true 24 v d p) :
    ∃ (m : Int) (f : Nat), v = .agg #[.int .i64 m, .int .u32 f] ∧ (-9223372036854775808 ≤ m ∧ m ≤ 9223372036854775807) ∧ f < 4294967296 := by
  obtain ⟨c0, c1, y0, y1, k, rfl, _, _, hy0, hy1⟩ := open_agg2 Try.underlying24 (by kernel_rfl) Try.cells24 u h
  obtain ⟨a, e0, _, wa⟩ := DataW.trod_int Try.underlying3 hy0
  obtain ⟨b, e1, _, wb⟩ := DataW.trod_int Try.underlying22 hy1
  simp at e0 e1
  subst e0 e1
  obtain ⟨m, rfl, hm⟩ := u32_of wb
  exact ⟨a, m, rfl, i64_of wa, hm⟩
theorem view_choice (u : Value.okWide Try.prog W .any base 26 v) (h : DataW.Trod enc Try.prog W 0 (fun _ => true) true 26 v d p) :
    ∃ (m : Int) (f : Nat), v = .agg #[.int .i64 m, .int .u32 f] ∧ (-9223372036854775808 ≤ m ∧ m ≤ 9223372036854775807) ∧ f < 4294967296 := by
  obtain ⟨c0, c1, y0, y1, k, rfl, _, _, hy0, hy1⟩ := open_agg2 Try.underlying26 (by kernel_rfl) Try.cells26 u h
  obtain ⟨a, e0, _, wa⟩ := DataW.trod_int Try.underlying3 hy0
  obtain ⟨b, e1, _, wb⟩ := DataW.trod_int Try.underlying22 hy1
  simp at e0 e1
  subst e0 e1
  obtain ⟨m, rfl, hm⟩ := u32_of wb
  exact ⟨a, m, rfl, i64_of wa, hm⟩
theorem view_u32 (u : Value.okWide Try.prog W .any base 22 v) (h : DataW.Trod enc Try.prog W 0 (fun _ => true) true 22 v d p) :
    ∃ f : Nat, v = .int .u32 f ∧ f < 4294967296 := by
  obtain ⟨n, rfl, _, _, wn⟩ := open_int Try.underlying22 u h
  obtain ⟨m, rfl, hm⟩ := u32_of wn
  exact ⟨m, rfl, hm⟩
end
end Go.Proofs.Ytblhbhhgpfcfbaa
