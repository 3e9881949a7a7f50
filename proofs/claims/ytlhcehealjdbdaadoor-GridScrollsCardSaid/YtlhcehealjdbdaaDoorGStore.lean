/- A whole cell stored into a row of the caller's own: as a law, the world left opaque. -/
import Derived.Test.YtlhcehealjdbdaaDoorGlyphOps
namespace Go.Proofs.YtlhcehealjdbdaaDoor
open Go.RowKit
theorem grown_of_below {a b : World} (h : Below a.heap.size a b) (row : Option Nat) : a.grownBy b row := ⟨h.os, h.tape, h.output, h.size, fun k hk _ => h.block k hk⟩
theorem grown_trans {a b c : World} {row : Option Nat} (h : a.grownBy b row) (k : b.grownBy c row) : a.grownBy c row :=
  ⟨k.os.trans h.os, k.tape.trans h.tape, k.output.trans h.output, Nat.le_trans h.size k.size, fun i hi hne => (k.block i (Nat.lt_of_lt_of_le hi h.size) hne).trans (h.block i hi hne)⟩
theorem below_grown {B g : Nat} {a b c : World} (h : Below B a b) (k : b.grownBy c (some g)) (hg : B ≤ g) (hB : B ≤ b.heap.size) : Below B a c := h.grown k hB (fun j hj => by cases hj; exact hg)
theorem grown_drew (a : World) (row : Option Nat) : a.grownBy a.drew row := ⟨rfl, rfl, rfl, Nat.le_refl _, fun _ _ _ => rfl⟩
theorem gstore_run {w : World} {base g n c k : Nat} {xs : List Glyph} (d : Glyph) (hr : CRow w base (.slice (some ⟨g, 0, none⟩) n c) xs) (hk : k < n) :
    ∃ w', (Instr.storeAt 28 (.pointer (some ⟨g, k * 6, none⟩)) (.agg #[.int .i32 d.r, .int .u8 d.w, .int .u32 d.f, .int .u32 d.b, .int .u8 d.a, .int .u16 d.l])).run Tryd.prog w = .ok () w' ∧
      CRow w' base (.slice (some ⟨g, 0, none⟩) n c) (xs.set k d) ∧ w.grownBy w' (some g) := by
  obtain ⟨⟨p0, p1, p2, p3, p4, p5⟩, hbg, hfz⟩ := crow_at hr hk
  have f0 := hfz (k * 6)
  have f1 := hfz (k * 6 + 1)
  have f2 := hfz (k * 6 + 2)
  have f3 := hfz (k * 6 + 3)
  have f4 := hfz (k * 6 + 4)
  have f5 := hfz (k * 6 + 5)
  refine ⟨_, ?_, crow_set d hr hk, turn_store (turn_store (turn_store (turn_store (turn_store (turn_store (turn_refl w _) _ _) _ _) _ _) _ _) _ _) _ _⟩
  go_simp
section
variable {o : Oper} {a : Act} {w : World} {Q : Exit → Act → World → Prop}
theorem gstore_op {K : Act → World → Prop} (p v : Operand) (ho : o.op = .store 28 p v) {base g n c k : Nat} {xs : List Glyph} {d : Glyph} (hp : a.eval p = .pointer (some ⟨g, k * 6, none⟩)) (hv : a.eval v = .agg #[.int .i32 d.r, .int .u8 d.w, .int .u32 d.f, .int .u32 d.b, .int .u8 d.a, .int .u16 d.l])
    (hr : CRow w base (.slice (some ⟨g, 0, none⟩) n c) xs) (hk : k < n) (h : ∀ w', CRow w' base (.slice (some ⟨g, 0, none⟩) n c) (xs.set k d) → w.grownBy w' (some g) → K (a.put o.dst undef) w') : Oper.wp Tryd.prog o a w K Q := by
  obtain ⟨w', hrun, h1, h2⟩ := gstore_run d hr hk
  unfold Oper.wp execOp
  simp only [ho, hp, hv, Sem.run_bind, hrun, Result.andThen_ok]
  simp only [Sem.run_pure, Oper.upon]
  exact h w' h1 h2
theorem gwide_run {w : World} {base g n c k : Nat} {xs : List Glyph} {z : Glyph} (u : Int) (hr : CRow w base (.slice (some ⟨g, 0, none⟩) n c) xs) (hk : k < n) (hz : xs.getD k g0 = z) :
    ∃ w', (Instr.storeAt 5 (.pointer (some ⟨g, k * 6 + 1, none⟩)) (.int .u8 u)).run Tryd.prog w = .ok () w' ∧
      CRow w' base (.slice (some ⟨g, 0, none⟩) n c) (xs.set k ⟨z.r, u, z.f, z.b, z.a, z.l⟩) ∧ w.grownBy w' (some g) := by
  subst hz
  obtain ⟨⟨_, p1, _⟩, hbg, hfz⟩ := crow_at hr hk
  have f1 := hfz (k * 6 + 1)
  refine ⟨_, ?_, crow_put (j := 1) (d := ⟨(xs.getD k g0).r, u, (xs.getD k g0).f, (xs.getD k g0).b, (xs.getD k g0).a, (xs.getD k g0).l⟩) (u := .int .u8 u) hr hk (by omega) rfl, turn_store (turn_refl w _) _ _⟩
  go_simp
theorem gwide_op {K : Act → World → Prop} (p v : Operand) (ho : o.op = .store 5 p v) {base g n c k : Nat} {xs : List Glyph} {z : Glyph} {u : Int} (hp : a.eval p = .pointer (some ⟨g, k * 6 + 1, none⟩)) (hv : a.eval v = .int .u8 u)
    (hr : CRow w base (.slice (some ⟨g, 0, none⟩) n c) xs) (hk : k < n) (hz : xs.getD k g0 = z) (h : ∀ w', CRow w' base (.slice (some ⟨g, 0, none⟩) n c) (xs.set k ⟨z.r, u, z.f, z.b, z.a, z.l⟩) → w.grownBy w' (some g) → K (a.put o.dst undef) w') : Oper.wp Tryd.prog o a w K Q := by
  obtain ⟨w', hrun, h1, h2⟩ := gwide_run u hr hk hz
  unfold Oper.wp execOp
  simp only [ho, hp, hv, Sem.run_bind, hrun, Result.andThen_ok]
  simp only [Sem.run_pure, Oper.upon]
  exact h w' h1 h2
theorem gstore_list {ops : Array Oper} {rest : List Oper} (hgd : o.guard = none) (p v : Operand) (ho : o.op = .store 28 p v) {base g n c k : Nat} {xs : List Glyph} {d : Glyph} (hp : a.eval p = .pointer (some ⟨g, k * 6, none⟩)) (hv : a.eval v = .agg #[.int .i32 d.r, .int .u8 d.w, .int .u32 d.f, .int .u32 d.b, .int .u8 d.a, .int .u16 d.l])
    (hr : CRow w base (.slice (some ⟨g, 0, none⟩) n c) xs) (hk : k < n) (h : ∀ w', CRow w' base (.slice (some ⟨g, 0, none⟩) n c) (xs.set k d) → w.grownBy w' (some g) → wpList Tryd.prog ops Q rest (a.put o.dst undef) w') : wpList Tryd.prog ops Q (o :: rest) a w := by
  refine wpList_plain hgd fun K hK => gstore_op p v ho hp hv hr hk fun w' h1 h2 => hK _ _ ?_
  exact h w' h1 h2
end
end Go.Proofs.YtlhcehealjdbdaaDoor
