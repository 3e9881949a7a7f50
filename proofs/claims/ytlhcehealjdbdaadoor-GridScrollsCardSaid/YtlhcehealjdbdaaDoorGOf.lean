/- The grid of rows, as the document builds it. -/
import Derived.Test.YtlhcehealjdbdaaDoorGRows
import Derived.Deep.DeepCutAuto
namespace Go.Proofs.YtlhcehealjdbdaaDoor
open Go.RowKit
set_option linter.unusedSimpArgs false
set_option linter.unusedVariables false
attribute [local go_sem] alloc_drewN setCell_drewN


section
variable {o : Oper} {a : Act} {w : World} {Q : Exit → Act → World → Prop} {ops : Array Oper} {rest : List Oper}
/-- 'append(l, xs...)' at rows of cells, l the caller's own. -/
theorem gapp_op {K : Act → World → Prop} (s x : Operand) (ho : o.op = .call { callee := .builtin .append, args := #[s, x], argTypes := #[29, 29] })
    {lo : Nat} {v : Value} {ys qs : List Glyph} (hs : a.eval s = v) (hown : CRow w lo v ys) {ad : Addr} {m c : Nat} (hx : a.eval x = .slice (some ad) m c) (hu : Cells w (some ad) m qs) (hl : ys.length + m ≤ 1000000) (hlo : lo ≤ w.heap.size)
    (h : ∀ v' w', CRow w' lo v' (ys ++ qs) → w.grownBy w' v.ownBlock → K (a.put o.dst v') w') : Oper.wp Tryd.prog o a w K Q := by
  obtain rfl := hu.1
  refine wp_append_own w s x 29 ho lo 28 _ _ 6 20 Tryd.underlying29 ginfoE gzeroE (by kernel_rfl) (by kernel_rfl) rfl (by decide) v ys.length (flat ys) hs hown ad qs.length c (flat qs) hx (flat_len qs)
    (cells_src hu) (flat_one qs) (by unfold maxLen; omega) (by omega) hlo (fun v' w' r1 r2 _ => h v' w' ?_ r2)
  show w'.ownsRow lo 28 6 v' (ys ++ qs).length (flat (ys ++ qs))
  rw [List.length_append, flat_app]
  exact r1
theorem gcstore_op {K : Act → World → Prop} (p v : Operand) (ho : o.op = .store 29 p v) {g : Nat} {c0 c1 c2 : Value} {sa : Option Addr} {sn sc : Nat} (hp : a.eval p = .pointer (some ⟨g, 2, none⟩)) (hv : a.eval v = .slice sa sn sc)
    (hr : Own w g 49 #[c0, c1, c2]) (h : ∀ w', Own w' g 49 #[c0, c1, .slice sa sn sc] → w.grownBy w' (some g) → K (a.put o.dst undef) w') : Oper.wp Tryd.prog o a w K Q := by
  have hrun : ∃ w', (Instr.storeAt 29 (.pointer (some ⟨g, 2, none⟩)) (.slice sa sn sc)).run Tryd.prog w = .ok () w' ∧ Own w' g 49 #[c0, c1, .slice sa sn sc] ∧ w.grownBy w' (some g) := by
    have p2 := hr.cell 2
    have f2 := hr.frozen 2
    simp only [List.getElem?_toArray, List.getElem?_cons_zero, List.getElem?_cons_succ] at p2
    have h2 : Own (w.setCell ⟨g, 2, none⟩ (.slice sa sn sc)) g 49 #[c0, c1, .slice sa sn sc] := by simpa using hr.store 2 (.slice sa sn sc)
    refine ⟨_, ?_, h2, turn_store (turn_refl w _) _ _⟩
    clear h2
    go_simp
  obtain ⟨w', hrun, h1, h2⟩ := hrun
  unfold Oper.wp execOp
  simp only [ho, hp, hv, Sem.run_bind, hrun, Result.andThen_ok]
  simp only [Sem.run_pure, Oper.upon]
  exact h w' h1 h2
/-- Its columns alone. -/
theorem gistore_list (hgd : o.guard = none) (p v : Operand) (ho : o.op = .store 3 p v) {g : Nat} {c0 c1 c2 : Value} {x : Int} (hp : a.eval p = .pointer (some ⟨g, 0, none⟩)) (hv : a.eval v = .int .i64 x)
    (hr : Own w g 49 #[c0, c1, c2]) (h : ∀ w', Own w' g 49 #[.int .i64 x, c1, c2] → w.grownBy w' (some g) → wpList Tryd.prog ops Q rest (a.put o.dst undef) w') (hc0 : ∃ y : Int, c0 = .int .i64 y) : wpList Tryd.prog ops Q (o :: rest) a w := by
  have hrun : ∃ w', (Instr.storeAt 3 (.pointer (some ⟨g, 0, none⟩)) (.int .i64 x)).run Tryd.prog w = .ok () w' ∧ Own w' g 49 #[.int .i64 x, c1, c2] ∧ w.grownBy w' (some g) := by
    have p0 := hr.cell 0
    have f0 := hr.frozen 0
    simp only [List.getElem?_toArray, List.getElem?_cons_zero, List.getElem?_cons_succ] at p0
    have h2 : Own (w.setCell ⟨g, 0, none⟩ (.int .i64 x)) g 49 #[.int .i64 x, c1, c2] := by simpa using hr.store 0 (.int .i64 x)
    refine ⟨_, ?_, h2, turn_store (turn_refl w _) _ _⟩
    clear h2
    go_simp
  obtain ⟨w', hrun, h1, h2⟩ := hrun
  refine wpList_plain hgd fun K hK => ?_
  unfold Oper.wp execOp
  simp only [ho, hp, hv, Sem.run_bind, hrun, Result.andThen_ok]
  simp only [Sem.run_pure, Oper.upon]
  exact hK _ _ (h w' h1 h2)
end
def OfRel (w : World) (C R : Nat) (L : List (List Glyph)) (q : Nat) (wr : World) : Prop :=
  ∃ (c : Nat) (va : Option Addr) (vn vc : Nat), Own wr (w.heap.size + 1) 49 #[.int .i64 c, .int .i64 R, .slice va vn vc] ∧ CRow wr w.heap.size (.slice va vn vc) (L.take q).flatten ∧ Own wr w.heap.size 49 #[.int .i64 0, .int .i64 0, .slice none 0 0] ∧ Below w.heap.size w wr ∧ (0 < q → c = C)
theorem flat_step {L : List (List Glyph)} {q : Nat} (h : q < L.length) : (L.take (q + 1)).flatten = (L.take q).flatten ++ L.getD q [] := by
  rw [List.take_add_one, List.getElem?_eq_getElem h, List.flatten_append]
  rw [List.getD_eq_getElem?_getD, List.getElem?_eq_getElem h]
  simp
theorem flat_take_len {L : List (List Glyph)} {C : Nat} (hC : ∀ i, i < L.length → (L.getD i []).length = C) : ∀ q, q ≤ L.length → ((L.take q).flatten).length = q * C
  | 0, _ => by simp
  | q + 1, h => by
    rw [flat_step (by omega), List.length_append, flat_take_len hC q (by omega), hC q (by omega), Nat.add_mul]
    omega
set_option maxRecDepth 10000 in
set_option maxHeartbeats 2000000 in
theorem of_any (C R gl lc lb : Nat) (L : List (List Glyph)) (w : World) (hL : RowsAt w lb (.slice (some ⟨gl, 0, none⟩) R lc) L) (hR1 : 1 ≤ R) (hR24 : R ≤ 24) (h1 : 1 ≤ C) (h8 : C ≤ 80) (hC : ∀ i, i < R → (L.getD i []).length = C) : Calls Tryd.prog 56 #[.slice (some ⟨gl, 0, none⟩) R lc] w (GG C R L.flatten w) := by
  obtain ⟨g', e', hLn, _, hglw, _⟩ := rows_addr hL (by omega)
  cases e'
  have HL := Lib.hid hL
  have HLN := Lib.hid hLn
  have HCC := Lib.hid hC
  clear hL hLn hC
  go_enter Tryd.func56, Tryd.ntmps56
  go_upto_region 2 with fail
  have HL0 : Hid (OfRel w C R L 0 ((w.alloc (.cells #[.int .i64 0, .int .i64 0, .slice none 0 0] 49)).alloc (.cells #[.int .i64 0, .int .i64 R, .slice none 0 0] 49))) := ⟨0, none, 0, 0, by
    have h := Own.new (w.alloc (.cells #[.int .i64 0, .int .i64 0, .slice none 0 0] 49)) 49 #[.int .i64 0, .int .i64 R, .slice none 0 0]
    simpa using h, CRow.nil _ _, (Own.new w 49 _).alloc _, ((Below.refl _ _).alloc (Nat.le_refl _) _).alloc (by simp) _, fun h => absurd h (by omega)⟩
  generalize (w.alloc (.cells #[.int .i64 0, .int .i64 0, .slice none 0 0] 49)).alloc (.cells #[.int .i64 0, .int .i64 R, .slice none 0 0] 49) = w2 at HL0 ⊢
  go_wp2_with fail
  go_loopw [10] (fun v wr => ∃ q : Nat, q ≤ R ∧ v = .int .i64 q ∧ Hid (OfRel w C R L q wr)) (fun v _ => R - (intOf v).toNat)
  case atStart => exact ⟨0, by omega, rfl, HL0⟩
  case round =>
    obtain ⟨q, hq1, rfl, HR⟩ := hrel
    clear HL0
    by_cases hq : q < R
    · have hi0 : (0 : Int) ≤ (q : Int) := by omega
      have hi1 : (q : Int) < (R : Int) := by omega
      have hdq : decide (q < R) = true := decide_eq_true hq
      have HQ : Hid (q < R) := hq
      obtain ⟨c, va, vn, vc, ho, hr, hzg, hbl, _⟩ := HR.out
      have O1 := Lib.hid ho
      have R1 := Lib.hid hr
      have Z1 := Lib.hid hzg
      have B1 := Lib.hid hbl
      clear ho hr hzg hbl HR
      obtain ⟨ra', rc, hcw, hrw, _⟩ := rows_at HL.out hq
      rw [HCC.out q hq] at hcw hrw
      have hcl := cells_of hrw
      obtain ⟨rb, ro, hra, _, _⟩ := hcl.2.2 (by omega)
      obtain ⟨ra, hra2⟩ : ∃ ra, ra' = some ra := ⟨_, hra⟩
      subst hra2
      have HCW := Lib.hid hcw
      have HTL : Hid (((L.take q).flatten).length = q * C) := flat_take_len (fun i hi => HCC.out i (by rw [← HLN.out]; exact hi)) q (by rw [HLN.out]; omega)
      have HTK : Hid ((L.take (q + 1)).flatten = (L.take q).flatten ++ L.getD q []) := flat_step (by rw [HLN.out]; exact hq)
      have HCL := Lib.hid hcl
      clear hcw hrw hcl hra
      have e0 : wr.cell? ⟨gl, q, none⟩ = some (.slice (some ra) C rc) := (B1.out.cell (p := ⟨gl, q, none⟩) hglw).trans HCW.out
      have hO := O1.out
      go_upto_region 6 with (first
        | (refine gistore_list rfl _ _ rfl (x := C) rfl rfl hO ?_ ⟨_, rfl⟩; intro w3 o3 k3; have O3 := Lib.hid o3; have B3 : Hid (Below w.heap.size w w3) := below_grown B1.out k3 (by omega) B1.out.size; have R3 : Hid (CRow w3 w.heap.size (.slice va vn vc) (L.take q).flatten) := World.ownsRow.kept R1.out k3 (apart_own R1.out O1.out (by decide)); have Z3 := Lib.hid (Z1.out.grown k3 (fun e => by injection e with e; omega)); clear o3 k3 hO)
        | go_in)
      (try simp only [Act.put])
      clear e0 O1 R1 B1 Z1
      have HR3 : Hid (Cells w3.drew (some ra) C (L.getD q [])) := HCL.out.below (below_drewN B3.out 1)
      have S3 : Hid (w3.drew.cell? ⟨w.heap.size + 1, 2, none⟩ = some (.slice va vn vc) ∧ w3.drew.cell? ⟨gl, q, none⟩ = some (.slice (some ra) C rc)) := ⟨Own.cell O3.out 2, ((below_drewN B3.out 1).cell (p := ⟨gl, q, none⟩) hglw).trans HCW.out⟩
      have R3' : Hid (CRow w3.drew w.heap.size (.slice va vn vc) (L.take q).flatten) := R3.out
      have O3' : Hid (Own w3.drew (w.heap.size + 1) 49 #[.int .i64 C, .int .i64 R, .slice va vn vc]) := O3.out
      have Z3' : Hid (Own w3.drew w.heap.size 49 #[.int .i64 0, .int .i64 0, .slice none 0 0]) := Z3.out
      have B3' : Hid (Below w.heap.size w w3.drew) := below_drewN B3.out 1
      clear R3 O3 Z3 B3
      refine wp_region_bits_at (S := fun w' => w'.cell? ⟨w.heap.size + 1, 2, none⟩ = some (.slice va vn vc) ∧ w'.cell? ⟨gl, q, none⟩ = some (.slice (some ra) C rc)) [(0, true), (1, true), (2, true), (3, true), (4, true), (5, true), (6, false), (7, true), (8, false)] [8] (by kernel_rfl) (by kernel_rfl) (fun c a d v w h => by cases d <;> exact h) S3.out ?_
      simp only [bits_, bitOf, List.getElem?_cons_zero, List.getElem?_cons_succ, List.contains_nil, List.contains_cons, Nat.reduceBEq, Bool.or_false]
      repeat (first | (refine bits_take (v := ?_) (by rfl) ?_ ?_; rotate_left; (· intro w' hS; obtain ⟨s0, s1⟩ := hS; go_simp; (try (go_ints; try go_simp)); with_reducible rfl); (try simp only [Act.put, List.setIfInBounds_toArray, List.set_cons_zero, List.set_cons_succ])) | (refine bits_skip (by rfl) ?_; (try simp only [Act.put, List.setIfInBounds_toArray, List.set_cons_zero, List.set_cons_succ])))
      refine bits_eff (by rfl) (fun K hK => ?_)
      refine gapp_op _ _ rfl rfl R3'.out rfl HR3.out (by rw [HTL.out]; have := mul_row (c := C) HQ.out; have := mul_bound h8 hR24; omega) B3'.out.size fun v4 w4 r4 k4 => ?_
      have hno := fun e : (Value.slice va vn vc).ownBlock = some (w.heap.size + 1) => (apart_own R3'.out O3'.out (by decide)).elim (fun h => by rw [h] at e; cases e) (fun h => h e)
      have hnz := fun e : (Value.slice va vn vc).ownBlock = some w.heap.size => (apart_own R3'.out Z3'.out (by decide)).elim (fun h => by rw [h] at e; cases e) (fun h => h e)
      have O4 := Lib.hid (O3'.out.grown k4 (fun e => hno e.symm))
      have Z4 := Lib.hid (Z3'.out.grown k4 (fun e => hnz e.symm))
      have B4 : Hid (Below w.heap.size w w4) := B3'.out.grown k4 B3'.out.size (fun j hj => (World.ownsRow.lt R3'.out j hj).1)
      have R4 := Lib.hid r4
      obtain ⟨vb, vd, rfl, _⟩ := r4.cells
      have S4 : Hid (w4.cell? ⟨w.heap.size + 1, 2, none⟩ = some (.slice va vn vc) ∧ w4.cell? ⟨gl, q, none⟩ = some (.slice (some ra) C rc)) := ⟨Own.cell O4.out 2, (B4.out.cell (p := ⟨gl, q, none⟩) hglw).trans HCW.out⟩
      clear r4 k4 hno hnz
      refine hK _ _ ?_ ?_
      · exact S4.out
      clear hK K
      (try simp only [Act.put])
      repeat (first | (refine bits_take (v := ?_) (by rfl) ?_ ?_; rotate_left; (· intro w' hS; obtain ⟨s0, s1⟩ := hS; go_simp; (try (go_ints; try go_simp)); with_reducible rfl); (try simp only [Act.put, List.setIfInBounds_toArray, List.set_cons_zero, List.set_cons_succ])) | (refine bits_skip (by rfl) ?_; (try simp only [Act.put, List.setIfInBounds_toArray, List.set_cons_zero, List.set_cons_succ])))
      refine bits_tail (by rfl) (fun K hK => ?_)
      refine gcstore_op _ _ rfl rfl rfl O4.out fun w5 o5 k5 => ?_
      have HY : Hid (OfRel w C R L (q + 1) w5) := ⟨C, _, _, _, o5, by rw [HTK.out]; exact World.ownsRow.kept R4.out k5 (apart_own R4.out O4.out (by decide)), Z4.out.grown k5 (fun e => by injection e with e; omega), below_grown B4.out k5 (by omega) B4.out.size, fun _ => rfl⟩
      refine hK _ _ ?_
      clear hK K
      (try simp only [Act.put])
      repeat (first | (refine bits_take (v := ?_) (by rfl) ?_ ?_; rotate_left; (· intro w' hS; obtain ⟨s0, s1⟩ := hS; go_simp; (try (go_ints; try go_simp)); with_reducible rfl); (try simp only [Act.put, List.setIfInBounds_toArray, List.set_cons_zero, List.set_cons_succ])) | (refine bits_skip (by rfl) ?_; (try simp only [Act.put, List.setIfInBounds_toArray, List.set_cons_zero, List.set_cons_succ])))
      refine bits_nil ?_
      go_wp2_with fail
      go_roundw
      case rel => exact ⟨q + 1, HQ.out, by go_num, HY⟩
      case measure => have := HQ.out; simp [intOf]; omega
    · obtain rfl : q = R := by omega
      have hdq : decide (q < q) = false := decide_eq_false hq
      obtain ⟨c, va, vn, vc, ho, hr, hzg, hbl, hcC⟩ := HR.out
      obtain rfl : c = C := hcC (by omega)
      have hown := hzg
      have R1 := Lib.hid hr
      have B1 := Lib.hid hbl
      have Z1 := Lib.hid hzg
      have g0 := Own.cell ho 0
      have g1 := Own.cell ho 1
      have g2 := Own.cell ho 2
      simp only [List.getElem?_toArray, List.getElem?_cons_zero, List.getElem?_cons_succ] at g0 g1 g2
      clear hr hzg hbl hcC hq HR
      go_wp2_with (first
        | (refine gvstore_list rfl _ _ rfl (c := c) (r := q) (sa := va) (sn := vn) (sc := vc) rfl rfl hown ?_; intro w5 o5 k5; have O5 := Lib.hid o5; have B5 : Hid (Below w.heap.size w w5) := below_grown B1.out k5 (Nat.le_refl _) B1.out.size; have R5 : Hid (CRow w5 w.heap.size (.slice va vn vc) (L.take q).flatten) := World.ownsRow.kept R1.out k5 (apart_own R1.out Z1.out (by decide)); clear o5 k5 hown)
        | go_in)
      clear g0 g1 g2 ho
      have g0 := Own.cell O5.out 0
      have g1 := Own.cell O5.out 1
      have g2 := Own.cell O5.out 2
      simp only [List.getElem?_toArray, List.getElem?_cons_zero, List.getElem?_cons_succ] at g0 g1 g2
      (try simp only [Exit.inBlock, Exit.then])
      refine bodyPost_ret (v := .agg #[.int .i64 c, .int .i64 q, .slice va vn vc]) (by simp [results, Tryd.results56, go_sem, g0, g1, g2]) rfl ?_
      exact ⟨_, rfl, by
        have e : L.take q = L := List.take_of_length_le (by rw [HLN.out]; exact Nat.le_refl _)
        rw [← e]
        exact R5.out, B5.out⟩
end Go.Proofs.YtlhcehealjdbdaaDoor
