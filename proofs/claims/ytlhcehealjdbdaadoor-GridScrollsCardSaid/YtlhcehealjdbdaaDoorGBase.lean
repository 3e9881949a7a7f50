/- A grid's record in memory; small functions of grid. -/
import Derived.Test.YtlhcehealjdbdaaDoorGPlain
import Derived.Test.YtlhcehealjdbdaaDoorOwn
import Derived.Deep.DeepCutAuto
namespace Go.Proofs.YtlhcehealjdbdaaDoor
open Go.RowKit
set_option linter.unusedSimpArgs false
set_option linter.unusedVariables false
attribute [local go_sem] alloc_drewN setCell_drewN


section
variable {o : Oper} {a : Act} {w : World} {Q : Exit → Act → World → Prop} {ops : Array Oper} {rest : List Oper}
/-- A grid's record stored whole. -/
theorem gvstore_run {g : Nat} {c0 c1 c2 : Value} (c r : Int) (sa : Option Addr) (sn sc : Nat) (hr : Own w g 49 #[c0, c1, c2]) : ∃ w', (Instr.storeAt 49 (.pointer (some ⟨g, 0, none⟩)) (.agg #[.int .i64 c, .int .i64 r, .slice sa sn sc])).run Tryd.prog w = .ok () w' ∧ Own w' g 49 #[.int .i64 c, .int .i64 r, .slice sa sn sc] ∧ w.grownBy w' (some g) := by
  have p0 := hr.cell 0
  have p1 := hr.cell 1
  have p2 := hr.cell 2
  have f0 := hr.frozen 0
  have f1 := hr.frozen 1
  have f2 := hr.frozen 2
  simp only [List.getElem?_toArray, List.getElem?_cons_zero, List.getElem?_cons_succ] at p0 p1 p2
  have h0 : Own (w.setCell ⟨g, 0, none⟩ (.int .i64 c)) g 49 #[.int .i64 c, c1, c2] := by simpa using hr.store 0 (.int .i64 c)
  have h1 : Own ((w.setCell ⟨g, 0, none⟩ (.int .i64 c)).setCell ⟨g, 1, none⟩ (.int .i64 r)) g 49 #[.int .i64 c, .int .i64 r, c2] := by simpa using h0.store 1 (.int .i64 r)
  have h2 : Own (((w.setCell ⟨g, 0, none⟩ (.int .i64 c)).setCell ⟨g, 1, none⟩ (.int .i64 r)).setCell ⟨g, 2, none⟩ (.slice sa sn sc)) g 49 #[.int .i64 c, .int .i64 r, .slice sa sn sc] := by simpa using h1.store 2 (.slice sa sn sc)
  refine ⟨_, ?_, h2, turn_store (turn_store (turn_store (turn_refl w _) _ _) _ _) _ _⟩
  clear h0 h1 h2
  go_simp
theorem gvstore_op {K : Act → World → Prop} (p v : Operand) (ho : o.op = .store 49 p v) {g : Nat} {c0 c1 c2 : Value} {c r : Int} {sa : Option Addr} {sn sc : Nat} (hp : a.eval p = .pointer (some ⟨g, 0, none⟩)) (hv : a.eval v = .agg #[.int .i64 c, .int .i64 r, .slice sa sn sc])
    (hr : Own w g 49 #[c0, c1, c2]) (h : ∀ w', Own w' g 49 #[.int .i64 c, .int .i64 r, .slice sa sn sc] → w.grownBy w' (some g) → K (a.put o.dst undef) w') : Oper.wp Tryd.prog o a w K Q := by
  obtain ⟨w', hrun, h1, h2⟩ := gvstore_run c r sa sn sc hr
  unfold Oper.wp execOp
  simp only [ho, hp, hv, Sem.run_bind, hrun, Result.andThen_ok]
  simp only [Sem.run_pure, Oper.upon]
  exact h w' h1 h2
theorem gvstore_list (hgd : o.guard = none) (p v : Operand) (ho : o.op = .store 49 p v) {g : Nat} {c0 c1 c2 : Value} {c r : Int} {sa : Option Addr} {sn sc : Nat} (hp : a.eval p = .pointer (some ⟨g, 0, none⟩)) (hv : a.eval v = .agg #[.int .i64 c, .int .i64 r, .slice sa sn sc])
    (hr : Own w g 49 #[c0, c1, c2]) (h : ∀ w', Own w' g 49 #[.int .i64 c, .int .i64 r, .slice sa sn sc] → w.grownBy w' (some g) → wpList Tryd.prog ops Q rest (a.put o.dst undef) w') : wpList Tryd.prog ops Q (o :: rest) a w :=
  wpList_plain hgd fun K hK => gvstore_op p v ho hp hv hr fun w' h1 h2 => hK _ _ (h w' h1 h2)
/-- Its cells alone. -/
theorem gcstore_list (hgd : o.guard = none) (p v : Operand) (ho : o.op = .store 29 p v) {g : Nat} {c0 c1 c2 : Value} {sa : Option Addr} {sn sc : Nat} (hp : a.eval p = .pointer (some ⟨g, 2, none⟩)) (hv : a.eval v = .slice sa sn sc)
    (hr : Own w g 49 #[c0, c1, c2]) (h : ∀ w', Own w' g 49 #[c0, c1, .slice sa sn sc] → w.grownBy w' (some g) → wpList Tryd.prog ops Q rest (a.put o.dst undef) w') : wpList Tryd.prog ops Q (o :: rest) a w := by
  have hrun : ∃ w', (Instr.storeAt 29 (.pointer (some ⟨g, 2, none⟩)) (.slice sa sn sc)).run Tryd.prog w = .ok () w' ∧ Own w' g 49 #[c0, c1, .slice sa sn sc] ∧ w.grownBy w' (some g) := by
    have p2 := hr.cell 2
    have f2 := hr.frozen 2
    simp only [List.getElem?_toArray, List.getElem?_cons_zero, List.getElem?_cons_succ] at p2
    have h2 : Own (w.setCell ⟨g, 2, none⟩ (.slice sa sn sc)) g 49 #[c0, c1, .slice sa sn sc] := by simpa using hr.store 2 (.slice sa sn sc)
    refine ⟨_, ?_, h2, turn_store (turn_refl w _) _ _⟩
    clear h2
    go_simp
  obtain ⟨w', hrun, h1, h2⟩ := hrun
  refine wpList_plain hgd fun K hK => ?_
  unfold Oper.wp execOp
  simp only [ho, hp, hv, Sem.run_bind, hrun, Result.andThen_ok]
  simp only [Sem.run_pure, Oper.upon]
  exact hK _ _ (h w' h1 h2)
end
theorem fits_any (c r : Int) (w : World) : Calls Tryd.prog 55 #[.int .i64 c, .int .i64 r] w fun e w' => e = .returned (.bool (fitsB c r)) ∧ w = w' := by
  cases h1 : decide (1 ≤ c) with
  | false =>
    go_enter Tryd.func55, Tryd.ntmps55
    go_wp2_with fail
    go_ret
    exact ⟨by unfold fitsB; rw [h1]; rfl, rfl⟩
  | true =>
    cases h2 : decide (c ≤ 80) with
    | false =>
      go_enter Tryd.func55, Tryd.ntmps55
      go_wp2_with fail
      go_ret
      exact ⟨by unfold fitsB; rw [h1, h2]; rfl, rfl⟩
    | true =>
      cases h3 : decide (1 ≤ r) with
      | false =>
        go_enter Tryd.func55, Tryd.ntmps55
        go_wp2_with fail
        go_ret
        exact ⟨by unfold fitsB; rw [h1, h2, h3]; rfl, rfl⟩
      | true =>
        cases h4 : decide (r ≤ 24) with
        | false =>
          go_enter Tryd.func55, Tryd.ntmps55
          go_wp2_with fail
          go_ret
          exact ⟨by unfold fitsB; rw [h1, h2, h3, h4]; rfl, rfl⟩
        | true =>
          go_enter Tryd.func55, Tryd.ntmps55
          go_wp2_with fail
          go_ret
          exact ⟨by unfold fitsB; rw [h1, h2, h3, h4]; rfl, rfl⟩
/-- A row in place. -/
theorem grow_any (C Y R g off n cp : Nat) (r : Int) (w : World) (h1 : 1 ≤ C) (h8 : C ≤ 80) (hy : Y < R) (hr : R ≤ 24) (hn : n = C * R) (hcp : n ≤ cp) :
    Calls Tryd.prog 59 #[.agg #[.int .i64 C, .int .i64 r, .slice (some ⟨g, off, none⟩) n cp], .int .i64 Y] w (RVal (.slice (some ⟨g, off + Y * C * 6, none⟩) C C) w) := by
  have hm := mul_row (c := C) hy
  have hb := mul_bound h8 hr
  obtain ⟨P, hP⟩ : ∃ P, Y * C = P := ⟨_, rfl⟩
  have k1 : (Y : Int) * (C : Int) = (P : Int) := by rw [← hP]; exact (Int.natCast_mul Y C).symm
  have k2 : ((Y : Int) + 1) * (C : Int) = ((P + C : Nat) : Int) := by rw [Int.add_mul, k1, Int.one_mul]; rfl
  rw [hP] at hm ⊢
  have q1 : P + C ≤ n := by omega
  have q2 : n ≤ 1920 := by omega
  obtain ⟨T, hT⟩ : ∃ T, P + C = T := ⟨_, rfl⟩
  rw [hT] at k2
  have i0 : (P : Int) ≤ (T : Int) := by omega
  have i1 : (T : Int) ≤ (cp : Int) := by omega
  have i2 : T - P = C := by omega
  have HT := Lib.hid hT
  have HY := Lib.hid hy
  have BB : Hid (Below w.heap.size w (w.alloc (.cells #[.int .i64 C, .int .i64 r, .slice (some ⟨g, off, none⟩) n cp] 49))) := (Below.refl _ _).alloc (Nat.le_refl _) _
  have G0 := Own.new w 49 #[.int .i64 C, .int .i64 r, .slice (some ⟨g, off, none⟩) n cp]
  have hY24 : Y < 24 := by omega
  have g0 := Own.cell G0 0
  have g1 := Own.cell G0 1
  have g2 := Own.cell G0 2
  simp only [List.getElem?_toArray, List.getElem?_cons_zero, List.getElem?_cons_succ] at g0 g1 g2
  clear hT hP hm hb hn hy
  go_enter Tryd.func59, Tryd.ntmps59
  go_wp2_with fail
  go_ret
  exact ⟨by first | rfl | (simp; omega), BB.out⟩
end Go.Proofs.YtlhcehealjdbdaaDoor
