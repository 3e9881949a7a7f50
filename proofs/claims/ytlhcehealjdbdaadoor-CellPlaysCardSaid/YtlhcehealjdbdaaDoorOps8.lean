/- A row of calls in memory; a call's copy. -/
import Derived.Test.YtlhcehealjdbdaaDoorWant
namespace Go.Proofs.YtlhcehealjdbdaaDoor
open Go.RowKit
set_option linter.unusedSimpArgs false
set_option linter.unusedVariables false

def OpAt8 (w : World) (b o : Nat) (p : Op8) : Prop := w.cell? ⟨b, o, none⟩ = some (.int .i64 p.k) ∧ w.cell? ⟨b, o + 1, none⟩ = some (.int .i64 p.x) ∧ w.cell? ⟨b, o + 2, none⟩ = some (.int .i64 p.n) ∧ w.cell? ⟨b, o + 3, none⟩ = some (.int .i32 p.r) ∧ w.cell? ⟨b, o + 4, none⟩ = some (.int .u32 p.f) ∧ w.cell? ⟨b, o + 5, none⟩ = some (.int .u32 p.b) ∧ w.cell? ⟨b, o + 6, none⟩ = some (.int .u8 p.a) ∧ w.cell? ⟨b, o + 7, none⟩ = some (.int .u16 p.l)
/-- The slice's calls are os. -/
def Ops8 (w : World) (a : Option Addr) (n : Nat) (os : Nat → Op8) : Prop :=
  n ≤ 9223372036854775807 ∧ (0 < n → ∃ b off, a = some ⟨b, off, none⟩ ∧ b < w.heap.size ∧ ∀ i, i < n → OpAt8 w b (off + i * 8) (os i))
theorem OpAt8.same {w w' : World} {b o : Nat} {c : Op8} (h : OpAt8 w b o c) (k : ∀ p : Addr, p.block = b → w'.cell? p = w.cell? p) : OpAt8 w' b o c :=
  ⟨(k _ rfl).trans h.1, (k _ rfl).trans h.2.1, (k _ rfl).trans h.2.2.1, (k _ rfl).trans h.2.2.2.1, (k _ rfl).trans h.2.2.2.2.1, (k _ rfl).trans h.2.2.2.2.2.1, (k _ rfl).trans h.2.2.2.2.2.2.1, (k _ rfl).trans h.2.2.2.2.2.2.2⟩
theorem Ops8.below {w w' : World} {a : Option Addr} {n : Nat} {os : Nat → Op8} (h : Ops8 w a n os) (hb : Below w.heap.size w w') : Ops8 w' a n os := by
  refine ⟨h.1, fun h0 => ?_⟩
  obtain ⟨b, off, he, hb', hc⟩ := h.2 h0
  exact ⟨b, off, he, Nat.lt_of_lt_of_le hb' hb.size, fun i hi => (hc i hi).same fun p hp => hb.cell (by omega)⟩
section
variable {o : Oper} {a : Act} {w : World} {Q : Exit → Act → World → Prop}
/-- A call copied into a block of its own. -/
theorem ostore_list {ops : Array Oper} {rest : List Oper} (hgd : o.guard = none) (p v : Operand) (ho : o.op = .store 43 p v) {g : Nat} {d : Op8} {c0 c1 c2 c3 c4 c5 c6 c7 : Value} (hp : a.eval p = .pointer (some ⟨g, 0, none⟩)) (hv : a.eval v = .agg #[.int .i64 d.k, .int .i64 d.x, .int .i64 d.n, .int .i32 d.r, .int .u32 d.f, .int .u32 d.b, .int .u8 d.a, .int .u16 d.l])
    (hr : Own w g 43 #[c0, c1, c2, c3, c4, c5, c6, c7]) (h : ∀ w', Own w' g 43 #[.int .i64 d.k, .int .i64 d.x, .int .i64 d.n, .int .i32 d.r, .int .u32 d.f, .int .u32 d.b, .int .u8 d.a, .int .u16 d.l] → w.grownBy w' (some g) → wpList Tryd.prog ops Q rest (a.put o.dst undef) w') : wpList Tryd.prog ops Q (o :: rest) a w := by
  have hrun : ∃ w', (Instr.storeAt 43 (.pointer (some ⟨g, 0, none⟩)) (.agg #[.int .i64 d.k, .int .i64 d.x, .int .i64 d.n, .int .i32 d.r, .int .u32 d.f, .int .u32 d.b, .int .u8 d.a, .int .u16 d.l])).run Tryd.prog w = .ok () w' ∧ Own w' g 43 #[.int .i64 d.k, .int .i64 d.x, .int .i64 d.n, .int .i32 d.r, .int .u32 d.f, .int .u32 d.b, .int .u8 d.a, .int .u16 d.l] ∧ w.grownBy w' (some g) := by
    have p0 := hr.cell 0
    have p1 := hr.cell 1
    have p2 := hr.cell 2
    have p3 := hr.cell 3
    have p4 := hr.cell 4
    have p5 := hr.cell 5
    have p6 := hr.cell 6
    have p7 := hr.cell 7
    have f0 := hr.frozen 0
    have f1 := hr.frozen 1
    have f2 := hr.frozen 2
    have f3 := hr.frozen 3
    have f4 := hr.frozen 4
    have f5 := hr.frozen 5
    have f6 := hr.frozen 6
    have f7 := hr.frozen 7
    simp only [List.getElem?_toArray, List.getElem?_cons_zero, List.getElem?_cons_succ] at p0 p1 p2 p3 p4 p5 p6 p7
    have h0 : Own (w.setCell ⟨g, 0, none⟩ (.int .i64 d.k)) g 43 #[.int .i64 d.k, c1, c2, c3, c4, c5, c6, c7] := by simpa using hr.store 0 (.int .i64 d.k)
    have h1 : Own ((w.setCell ⟨g, 0, none⟩ (.int .i64 d.k)).setCell ⟨g, 1, none⟩ (.int .i64 d.x)) g 43 #[.int .i64 d.k, .int .i64 d.x, c2, c3, c4, c5, c6, c7] := by simpa using h0.store 1 (.int .i64 d.x)
    have h2 : Own (((w.setCell ⟨g, 0, none⟩ (.int .i64 d.k)).setCell ⟨g, 1, none⟩ (.int .i64 d.x)).setCell ⟨g, 2, none⟩ (.int .i64 d.n)) g 43 #[.int .i64 d.k, .int .i64 d.x, .int .i64 d.n, c3, c4, c5, c6, c7] := by simpa using h1.store 2 (.int .i64 d.n)
    have h3 : Own ((((w.setCell ⟨g, 0, none⟩ (.int .i64 d.k)).setCell ⟨g, 1, none⟩ (.int .i64 d.x)).setCell ⟨g, 2, none⟩ (.int .i64 d.n)).setCell ⟨g, 3, none⟩ (.int .i32 d.r)) g 43 #[.int .i64 d.k, .int .i64 d.x, .int .i64 d.n, .int .i32 d.r, c4, c5, c6, c7] := by simpa using h2.store 3 (.int .i32 d.r)
    have h4 : Own (((((w.setCell ⟨g, 0, none⟩ (.int .i64 d.k)).setCell ⟨g, 1, none⟩ (.int .i64 d.x)).setCell ⟨g, 2, none⟩ (.int .i64 d.n)).setCell ⟨g, 3, none⟩ (.int .i32 d.r)).setCell ⟨g, 4, none⟩ (.int .u32 d.f)) g 43 #[.int .i64 d.k, .int .i64 d.x, .int .i64 d.n, .int .i32 d.r, .int .u32 d.f, c5, c6, c7] := by simpa using h3.store 4 (.int .u32 d.f)
    have h5 : Own ((((((w.setCell ⟨g, 0, none⟩ (.int .i64 d.k)).setCell ⟨g, 1, none⟩ (.int .i64 d.x)).setCell ⟨g, 2, none⟩ (.int .i64 d.n)).setCell ⟨g, 3, none⟩ (.int .i32 d.r)).setCell ⟨g, 4, none⟩ (.int .u32 d.f)).setCell ⟨g, 5, none⟩ (.int .u32 d.b)) g 43 #[.int .i64 d.k, .int .i64 d.x, .int .i64 d.n, .int .i32 d.r, .int .u32 d.f, .int .u32 d.b, c6, c7] := by simpa using h4.store 5 (.int .u32 d.b)
    have h6 : Own (((((((w.setCell ⟨g, 0, none⟩ (.int .i64 d.k)).setCell ⟨g, 1, none⟩ (.int .i64 d.x)).setCell ⟨g, 2, none⟩ (.int .i64 d.n)).setCell ⟨g, 3, none⟩ (.int .i32 d.r)).setCell ⟨g, 4, none⟩ (.int .u32 d.f)).setCell ⟨g, 5, none⟩ (.int .u32 d.b)).setCell ⟨g, 6, none⟩ (.int .u8 d.a)) g 43 #[.int .i64 d.k, .int .i64 d.x, .int .i64 d.n, .int .i32 d.r, .int .u32 d.f, .int .u32 d.b, .int .u8 d.a, c7] := by simpa using h5.store 6 (.int .u8 d.a)
    have h7 : Own ((((((((w.setCell ⟨g, 0, none⟩ (.int .i64 d.k)).setCell ⟨g, 1, none⟩ (.int .i64 d.x)).setCell ⟨g, 2, none⟩ (.int .i64 d.n)).setCell ⟨g, 3, none⟩ (.int .i32 d.r)).setCell ⟨g, 4, none⟩ (.int .u32 d.f)).setCell ⟨g, 5, none⟩ (.int .u32 d.b)).setCell ⟨g, 6, none⟩ (.int .u8 d.a)).setCell ⟨g, 7, none⟩ (.int .u16 d.l)) g 43 #[.int .i64 d.k, .int .i64 d.x, .int .i64 d.n, .int .i32 d.r, .int .u32 d.f, .int .u32 d.b, .int .u8 d.a, .int .u16 d.l] := by simpa using h6.store 7 (.int .u16 d.l)
    refine ⟨_, ?_, h7, turn_store (turn_store (turn_store (turn_store (turn_store (turn_store (turn_store (turn_store (turn_refl w _) _ _) _ _) _ _) _ _) _ _) _ _) _ _) _ _⟩
    clear h0 h1 h2 h3 h4 h5 h6 h7
    go_simp
  obtain ⟨w', hrun, h1, h2⟩ := hrun
  refine wpList_plain hgd fun K hK => ?_
  unfold Oper.wp execOp
  simp only [ho, hp, hv, Sem.run_bind, hrun, Result.andThen_ok]
  simp only [Sem.run_pure, Oper.upon]
  exact hK _ _ (h w' h1 h2)
end
theorem doP_row {xs : List Glyph} {o : Op8} (h : RowOk xs) (hp : penMay o.f o.b = true) : RowOk (doP xs o) := by
  have hok : (rowMay xs && penMay o.f o.b) = true := Bool.and_eq_true_iff.2 ⟨row_yes h, hp⟩
  unfold doP
  split
  · exact put_row hok
  · split
    · exact erase_row hok
    · split
      · exact insert_row hok
      · split
        · exact delete_row hok
        · exact h
theorem doP_same {xs : List Glyph} {o : Op8} (h : RowOk xs) (hp : penMay o.f o.b = true) : (doP xs o).length = xs.length := by
  have hok : (rowMay xs && penMay o.f o.b) = true := Bool.and_eq_true_iff.2 ⟨row_yes h, hp⟩
  unfold doP
  split
  · exact put_len hok
  · split
    · exact erase_len hok
    · split
      · exact insert_len hok
      · split
        · exact delete_len hok
        · rfl
theorem doP_no {xs : List Glyph} {o : Op8} (hk : 0 ≤ o.k ∧ o.k ≤ 3) (hp : penMay o.f o.b = false) : doP xs o = [] := by
  have hok : ¬ (rowMay xs && penMay o.f o.b) = true := by rw [hp, Bool.and_false]; decide
  unfold doP putP eraseP insertP deleteP
  rw [if_neg hok, if_neg hok, if_neg hok, if_neg hok]
  split
  · rfl
  · split
    · rfl
    · split
      · rfl
      · rw [if_pos (by omega)]
theorem rowB_ok {n : Nat} (h1 : 1 ≤ n) (h8 : n ≤ 80) : RowOk (List.replicate n (blank 0)) := by
  have hat : ∀ i, i < n → at_ (List.replicate n (blank 0)) i = blank 0 := fun i hi => by
    unfold at_
    rw [List.getD_eq_getElem?_getD, List.getElem?_replicate, if_pos hi]
    rfl
  refine ⟨by simpa using h1, by simpa using h8, fun i hi => ?_⟩
  have hi' : i < n := by simpa using hi
  unfold CellOk
  rw [hat i hi']
  refine ⟨by decide +kernel, fun k => ?_, fun k => ?_⟩
  · cases k
  · cases k
theorem fillP_all {n : Nat} {d : Glyph} : fillP (List.replicate n g0) 0 d n = List.replicate n d := by
  refine gext (by rw [fillP_len, List.length_replicate, List.length_replicate]) fun j hj => ?_
  rw [fillP_len, List.length_replicate] at hj
  show at_ (fillP (List.replicate n g0) 0 d n) j = at_ (List.replicate n d) j
  rw [fill_at (by simp), if_pos (by omega)]
  unfold at_
  rw [List.getD_eq_getElem?_getD, List.getElem?_replicate, if_pos hj]
  rfl
end Go.Proofs.YtlhcehealjdbdaaDoor
