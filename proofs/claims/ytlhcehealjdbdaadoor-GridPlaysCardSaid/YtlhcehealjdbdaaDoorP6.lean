/- Part 6 of the texts that GridPlays stands on, one behind the other. -/
import Derived.Test.YtlhcehealjdbdaaDoorP5
import Derived.Test.YtlhcehealjdbdaaDoorP4
import Derived.Deep.DeepCutAuto
/- A grid's record in memory; small functions of grid. -/
namespace Go.Proofs.YtlhcehealjdbdaaDoor
open Go.RowKit
set_option linter.unusedSimpArgs false
set_option linter.unusedVariables false
attribute [local go_sem] alloc_drewN setCell_drewN


section
variable {o : Oper} {a : Act} {w : World} {Q : Exit → Act → World → Prop} {ops : Array Oper} {rest : List Oper}
/-- A grid's record stored whole. -/
theorem gvstore_run {g : Nat} {c0 c1 c2 : Value} (c r : Int) (sa : Option Addr) (sn sc : Nat) (hr : Own w g 49 #[c0, c1, c2]) : ∃ w', (Instr.storeAt 49 (.pointer (some ⟨g, 0, none⟩)) (.agg #[.int .i64 c, .int .i64 r, .slice sa sn sc])).run Tryd.prog w = .ok () w' ∧ Own w' g 49 #[.int .i64 c, .int .i64 r, .slice sa sn sc] ∧ w.grownBy w' (some g) := by
  have p0 := hr.cell 0
  have p1 := hr.cell 1
  have p2 := hr.cell 2
  have f0 := hr.frozen 0
  have f1 := hr.frozen 1
  have f2 := hr.frozen 2
  simp only [List.getElem?_toArray, List.getElem?_cons_zero, List.getElem?_cons_succ] at p0 p1 p2
  have h0 : Own (w.setCell ⟨g, 0, none⟩ (.int .i64 c)) g 49 #[.int .i64 c, c1, c2] := by simpa using hr.store 0 (.int .i64 c)
  have h1 : Own ((w.setCell ⟨g, 0, none⟩ (.int .i64 c)).setCell ⟨g, 1, none⟩ (.int .i64 r)) g 49 #[.int .i64 c, .int .i64 r, c2] := by simpa using h0.store 1 (.int .i64 r)
  have h2 : Own (((w.setCell ⟨g, 0, none⟩ (.int .i64 c)).setCell ⟨g, 1, none⟩ (.int .i64 r)).setCell ⟨g, 2, none⟩ (.slice sa sn sc)) g 49 #[.int .i64 c, .int .i64 r, .slice sa sn sc] := by simpa using h1.store 2 (.slice sa sn sc)
  refine ⟨_, ?_, h2, turn_store (turn_store (turn_store (turn_refl w _) _ _) _ _) _ _⟩
  clear h0 h1 h2
  go_simp
theorem gvstore_op {K : Act → World → Prop} (p v : Operand) (ho : o.op = .store 49 p v) {g : Nat} {c0 c1 c2 : Value} {c r : Int} {sa : Option Addr} {sn sc : Nat} (hp : a.eval p = .pointer (some ⟨g, 0, none⟩)) (hv : a.eval v = .agg #[.int .i64 c, .int .i64 r, .slice sa sn sc])
    (hr : Own w g 49 #[c0, c1, c2]) (h : ∀ w', Own w' g 49 #[.int .i64 c, .int .i64 r, .slice sa sn sc] → w.grownBy w' (some g) → K (a.put o.dst undef) w') : Oper.wp Tryd.prog o a w K Q := by
  obtain ⟨w', hrun, h1, h2⟩ := gvstore_run c r sa sn sc hr
  unfold Oper.wp execOp
  simp only [ho, hp, hv, Sem.run_bind, hrun, Result.andThen_ok]
  simp only [Sem.run_pure, Oper.upon]
  exact h w' h1 h2
theorem gvstore_list (hgd : o.guard = none) (p v : Operand) (ho : o.op = .store 49 p v) {g : Nat} {c0 c1 c2 : Value} {c r : Int} {sa : Option Addr} {sn sc : Nat} (hp : a.eval p = .pointer (some ⟨g, 0, none⟩)) (hv : a.eval v = .agg #[.int .i64 c, .int .i64 r, .slice sa sn sc])
    (hr : Own w g 49 #[c0, c1, c2]) (h : ∀ w', Own w' g 49 #[.int .i64 c, .int .i64 r, .slice sa sn sc] → w.grownBy w' (some g) → wpList Tryd.prog ops Q rest (a.put o.dst undef) w') : wpList Tryd.prog ops Q (o :: rest) a w :=
  wpList_plain hgd fun K hK => gvstore_op p v ho hp hv hr fun w' h1 h2 => hK _ _ (h w' h1 h2)
/-- Its cells alone. -/
theorem gcstore_list (hgd : o.guard = none) (p v : Operand) (ho : o.op = .store 29 p v) {g : Nat} {c0 c1 c2 : Value} {sa : Option Addr} {sn sc : Nat} (hp : a.eval p = .pointer (some ⟨g, 2, none⟩)) (hv : a.eval v = .slice sa sn sc)
    (hr : Own w g 49 #[c0, c1, c2]) (h : ∀ w', Own w' g 49 #[c0, c1, .slice sa sn sc] → w.grownBy w' (some g) → wpList Tryd.prog ops Q rest (a.put o.dst undef) w') : wpList Tryd.prog ops Q (o :: rest) a w := by
  have hrun : ∃ w', (Instr.storeAt 29 (.pointer (some ⟨g, 2, none⟩)) (.slice sa sn sc)).run Tryd.prog w = .ok () w' ∧ Own w' g 49 #[c0, c1, .slice sa sn sc] ∧ w.grownBy w' (some g) := by
    have p2 := hr.cell 2
    have f2 := hr.frozen 2
    simp only [List.getElem?_toArray, List.getElem?_cons_zero, List.getElem?_cons_succ] at p2
    have h2 : Own (w.setCell ⟨g, 2, none⟩ (.slice sa sn sc)) g 49 #[c0, c1, .slice sa sn sc] := by simpa using hr.store 2 (.slice sa sn sc)
    refine ⟨_, ?_, h2, turn_store (turn_refl w _) _ _⟩
    clear h2
    go_simp
  obtain ⟨w', hrun, h1, h2⟩ := hrun
  refine wpList_plain hgd fun K hK => ?_
  unfold Oper.wp execOp
  simp only [ho, hp, hv, Sem.run_bind, hrun, Result.andThen_ok]
  simp only [Sem.run_pure, Oper.upon]
  exact hK _ _ (h w' h1 h2)
end
theorem fits_any (c r : Int) (w : World) : Calls Tryd.prog 55 #[.int .i64 c, .int .i64 r] w fun e w' => e = .returned (.bool (fitsB c r)) ∧ w = w' := by
  cases h1 : decide (1 ≤ c) with
  | false =>
    go_enter Tryd.func55, Tryd.ntmps55
    go_wp2_with fail
    go_ret
    exact ⟨by unfold fitsB; rw [h1]; rfl, rfl⟩
  | true =>
    cases h2 : decide (c ≤ 80) with
    | false =>
      go_enter Tryd.func55, Tryd.ntmps55
      go_wp2_with fail
      go_ret
      exact ⟨by unfold fitsB; rw [h1, h2]; rfl, rfl⟩
    | true =>
      cases h3 : decide (1 ≤ r) with
      | false =>
        go_enter Tryd.func55, Tryd.ntmps55
        go_wp2_with fail
        go_ret
        exact ⟨by unfold fitsB; rw [h1, h2, h3]; rfl, rfl⟩
      | true =>
        cases h4 : decide (r ≤ 24) with
        | false =>
          go_enter Tryd.func55, Tryd.ntmps55
          go_wp2_with fail
          go_ret
          exact ⟨by unfold fitsB; rw [h1, h2, h3, h4]; rfl, rfl⟩
        | true =>
          go_enter Tryd.func55, Tryd.ntmps55
          go_wp2_with fail
          go_ret
          exact ⟨by unfold fitsB; rw [h1, h2, h3, h4]; rfl, rfl⟩
/-- A row in place. -/
theorem grow_any (C Y R g off n cp : Nat) (r : Int) (w : World) (h1 : 1 ≤ C) (h8 : C ≤ 80) (hy : Y < R) (hr : R ≤ 24) (hn : n = C * R) (hcp : n ≤ cp) :
    Calls Tryd.prog 59 #[.agg #[.int .i64 C, .int .i64 r, .slice (some ⟨g, off, none⟩) n cp], .int .i64 Y] w (RVal (.slice (some ⟨g, off + Y * C * 6, none⟩) C C) w) := by
  have hm := mul_row (c := C) hy
  have hb := mul_bound h8 hr
  obtain ⟨P, hP⟩ : ∃ P, Y * C = P := ⟨_, rfl⟩
  have k1 : (Y : Int) * (C : Int) = (P : Int) := by rw [← hP]; exact (Int.natCast_mul Y C).symm
  have k2 : ((Y : Int) + 1) * (C : Int) = ((P + C : Nat) : Int) := by rw [Int.add_mul, k1, Int.one_mul]; rfl
  rw [hP] at hm ⊢
  have q1 : P + C ≤ n := by omega
  have q2 : n ≤ 1920 := by omega
  obtain ⟨T, hT⟩ : ∃ T, P + C = T := ⟨_, rfl⟩
  rw [hT] at k2
  have i0 : (P : Int) ≤ (T : Int) := by omega
  have i1 : (T : Int) ≤ (cp : Int) := by omega
  have i2 : T - P = C := by omega
  have HT := Lib.hid hT
  have HY := Lib.hid hy
  have BB : Hid (Below w.heap.size w (w.alloc (.cells #[.int .i64 C, .int .i64 r, .slice (some ⟨g, off, none⟩) n cp] 49))) := (Below.refl _ _).alloc (Nat.le_refl _) _
  have G0 := Own.new w 49 #[.int .i64 C, .int .i64 r, .slice (some ⟨g, off, none⟩) n cp]
  have hY24 : Y < 24 := by omega
  have g0 := Own.cell G0 0
  have g1 := Own.cell G0 1
  have g2 := Own.cell G0 2
  simp only [List.getElem?_toArray, List.getElem?_cons_zero, List.getElem?_cons_succ] at g0 g1 g2
  clear hT hP hm hb hn hy
  go_enter Tryd.func59, Tryd.ntmps59
  go_wp2_with fail
  go_ret
  exact ⟨by first | rfl | (simp; omega), BB.out⟩
end Go.Proofs.YtlhcehealjdbdaaDoor
/- Which grids may be: the program's walk. -/
namespace Go.Proofs.YtlhcehealjdbdaaDoor
open Go.RowKit
set_option linter.unusedSimpArgs false
set_option linter.unusedVariables false
attribute [local go_sem] alloc_drewN setCell_drewN


def YRel (C : Nat) (xs : List Glyph) (w : World) (q : Nat) (wr : World) : Prop := (∀ y, y < q → RowOk (rowOf C y xs)) ∧ Below w.heap.size w wr
set_option maxRecDepth 10000 in
set_option maxHeartbeats 2000000 in
theorem gmay_any (c r : Int) (a : Option Addr) (n cp : Nat) (xs : List Glyph) (w : World) (hl : Cells w a n xs) (hcp : n ≤ cp) (ht : Tabs w) : Calls Tryd.prog 40 #[.agg #[.int .i64 c, .int .i64 r, .slice a n cp]] w (RVal (.bool (gridMay c r xs)) w) := by
  obtain rfl := hl.1
  have HL := Lib.hid hl
  have HT := Lib.hid ht
  have hn63 := hl.2.1
  clear hl ht
  obtain ⟨fb, hfb⟩ : ∃ fb, fitsB c r = fb := ⟨_, rfl⟩
  have HFB := Lib.hid hfb
  have B0 : Hid (Below w.heap.size w (w.alloc (.cells #[.int .i64 c, .int .i64 r, .slice a xs.length cp] 49))) := (Below.refl _ _).alloc (Nat.le_refl _) _
  have O0 : Hid (Own (w.alloc (.cells #[.int .i64 c, .int .i64 r, .slice a xs.length cp] 49)) w.heap.size 49 #[.int .i64 c, .int .i64 r, .slice a xs.length cp]) := Own.new w 49 _
  have hz0 : w.heap.size < (w.alloc (.cells #[.int .i64 c, .int .i64 r, .slice a xs.length cp] 49)).heap.size := by simp
  cases fb with
  | false =>
    clear hfb
    have HZ : Hid (gridMay c r xs = false) := by unfold gridMay; rw [HFB.out, Bool.false_and]; rfl
    go_enter Tryd.func40, Tryd.ntmps40
    have g0 := Own.cell O0.out 0
    have g1 := Own.cell O0.out 1
    have g2 := Own.cell O0.out 2
    simp only [List.getElem?_toArray, List.getElem?_cons_zero, List.getElem?_cons_succ] at g0 g1 g2
    go_wp2_with fail
    refine (fits_any c r _).mono ?_
    rw [HFB.out]
    rintro e w' ⟨rfl, rfl⟩
    go_wp2_with fail
    go_ret
    exact ⟨by rw [HZ.out]; rfl, B0.out⟩
  | true =>
    obtain ⟨a1, a2, a3, a4⟩ := fits_iff.1 hfb
    clear hfb
    obtain ⟨C, rfl⟩ : ∃ C : Nat, c = C := ⟨c.toNat, by omega⟩
    obtain ⟨R, rfl⟩ : ∃ R : Nat, r = R := ⟨r.toNat, by omega⟩
    have hb := mul_bound (c := C) (r := R) (by omega) (by omega)
    have hpos : 0 < C * R := Nat.mul_pos (by omega) (by omega)
    obtain ⟨P, hP⟩ : ∃ P, C * R = P := ⟨_, rfl⟩
    have k1 : (C : Int) * (R : Int) = (P : Int) := by rw [← hP]; exact (Int.natCast_mul C R).symm
    have HP := Lib.hid hP
    rw [hP] at hb hpos
    clear hP
    by_cases hn : xs.length = P
    · have hne : (xs.length != P) = false := bne_eq_false_iff_eq.2 hn
      have hne2 : ((xs.length : Int) != (P : Int)) = false := bne_eq_false_iff_eq.2 (by omega)
      have HN := Lib.hid hn
      clear hn
      obtain ⟨g, off, rfl, hg, _⟩ := HL.out.2.2 (by have := HN.out; omega)
      go_enter Tryd.func40, Tryd.ntmps40
      have g0 := Own.cell O0.out 0
      have g1 := Own.cell O0.out 1
      have g2 := Own.cell O0.out 2
      simp only [List.getElem?_toArray, List.getElem?_cons_zero, List.getElem?_cons_succ] at g0 g1 g2
      go_wp2_with fail
      refine (fits_any C R _).mono ?_
      rw [HFB.out]
      rintro e w' ⟨rfl, rfl⟩
      generalize w.alloc (.cells #[.int .i64 C, .int .i64 R, .slice (some ⟨g, off, none⟩) xs.length cp] 49) = w0 at B0 O0 hz0 g0 g1 g2 ⊢
      go_wp2_with fail
      clear g0 g1 g2 k1 hne hne2
      go_loopw [23] (fun v wr => ∃ q : Nat, q ≤ R ∧ v = .int .i64 q ∧ Hid (YRel C xs w q wr ∧ Below w0.heap.size w0 wr)) (fun v _ => R - (intOf v).toNat)
      case atStart => exact ⟨0, by omega, rfl, ⟨fun y hy => absurd hy (by omega), B0.out⟩, Below.refl _ _⟩
      case round =>
        obtain ⟨q, hq1, rfl, HR⟩ := hrel
        by_cases hq : q < R
        · have hdq : decide (q < R) = true := decide_eq_true hq
          have HQ : Hid (q < R) := hq
          have O1 := Lib.hid (O0.out.below HR.out.2 hz0)
          have B1 : Hid (Below w.heap.size w wr) := HR.out.1.2
          have hnn : xs.length = C * R := by rw [HN.out, HP.out]
          have hmr := mul_row (c := C) hq
          have hrl := row_len hnn hq
          obtain ⟨rb, hrb⟩ : ∃ rb, rowMay (rowOf C q xs) = rb := ⟨_, rfl⟩
          have HRB := Lib.hid hrb
          have HGC := Lib.hid (grow_any C q R g off xs.length cp R wr (by omega) (by omega) hq (by omega) hnn hcp)
          have HPART : Hid (Cells wr (some ⟨g, off + q * C * 6, none⟩) C (rowOf C q xs)) := cells_part (HL.out.below B1.out) (s := q * C) (m := C) (by omega)
          have g0 := Own.cell O1.out 0
          have g1 := Own.cell O1.out 1
          have g2 := Own.cell O1.out 2
          simp only [List.getElem?_toArray, List.getElem?_cons_zero, List.getElem?_cons_succ] at g0 g1 g2
          clear hnn hmr hrl hrb
          go_wp2_with fail
          refine HGC.out.mono ?_
          rintro e w1 ⟨rfl, b1⟩
          have B2 : Hid (Below w.heap.size w w1) := B1.out.trans (b1.mono B1.out.size)
          have D2 : Hid (Below w0.heap.size w0 w1) := HR.out.2.trans (b1.mono HR.out.2.size)
          have HP2 := Lib.hid (HPART.out.below b1)
          clear b1 g0 g1 g2
          go_wp2_with fail
          refine (RVal.as (row_any _ C C _ _ HP2.out (HT.out.below B2.out)) (congrArg Value.bool HRB.out)).mono ?_
          rintro e w2 ⟨rfl, b2⟩
          have B3 : Hid (Below w.heap.size w w2) := B2.out.trans (b2.mono B2.out.size)
          have D3 : Hid (Below w0.heap.size w0 w2) := D2.out.trans (b2.mono D2.out.size)
          clear b2
          cases rb with
          | false =>
            have HZ : Hid (gridMay C R xs = false) := gmay_no (fun ⟨C', R', e1, e2, h⟩ => by
              obtain rfl : C' = C := by omega
              obtain rfl : R' = R := by omega
              have := row_yes (h.2.2.2.2.2 q HQ.out)
              rw [HRB.out] at this
              cases this)
            go_wp2_with fail
            go_ret
            exact ⟨by rw [HZ.out]; rfl, B3.out⟩
          | true =>
            have HY : Hid (YRel C xs w (q + 1) w2 ∧ Below w0.heap.size w0 w2) := ⟨⟨fun y hy => by
              rcases Nat.lt_or_ge y q with k | k
              · exact HR.out.1.1 y k
              · obtain rfl : y = q := by omega
                exact row_iff.1 HRB.out, B3.out⟩, D3.out⟩
            go_wp2_with fail
            go_roundw
            case rel => exact ⟨q + 1, HQ.out, by go_num, HY⟩
            case measure => have := HQ.out; simp [intOf]; omega
        · obtain rfl : q = R := by omega
          have HZ : Hid (gridMay C q xs = true) := gmay_iff.2 ⟨C, q, rfl, rfl, by omega, by omega, by omega, by omega, by rw [HN.out, HP.out], HR.out.1.1⟩
          have hdq : decide (q < q) = false := decide_eq_false hq
          clear hq
          go_wp2_with fail
          go_ret
          exact ⟨by rw [HZ.out]; rfl, HR.out.1.2⟩
    · have hne : (xs.length != P) = true := bne_iff_ne.2 hn
      have hne2 : ((xs.length : Int) != (P : Int)) = true := bne_iff_ne.2 (by omega)
      have HZ : Hid (gridMay C R xs = false) := gmay_no (fun ⟨C', R', e1, e2, h⟩ => by
        obtain rfl : C' = C := by omega
        obtain rfl : R' = R := by omega
        exact hn (h.2.2.2.2.1.trans HP.out))
      clear hn
      go_enter Tryd.func40, Tryd.ntmps40
      have g0 := Own.cell O0.out 0
      have g1 := Own.cell O0.out 1
      have g2 := Own.cell O0.out 2
      simp only [List.getElem?_toArray, List.getElem?_cons_zero, List.getElem?_cons_succ] at g0 g1 g2
      go_wp2_with fail
      refine (fits_any C R _).mono ?_
      rw [HFB.out]
      rintro e w' ⟨rfl, rfl⟩
      go_wp2_with fail
      go_ret
      exact ⟨by rw [HZ.out]; rfl, B0.out⟩
end Go.Proofs.YtlhcehealjdbdaaDoor
/- A grid's copy to work on; one of its rows. -/
namespace Go.Proofs.YtlhcehealjdbdaaDoor
open Go.RowKit
set_option linter.unusedSimpArgs false
set_option linter.unusedVariables false
attribute [local go_sem] alloc_drewN setCell_drewN


def OwnG (ok : Bool) (c r : Int) (xs : List Glyph) (w : World) (e : Ending) (w' : World) : Prop :=
  if ok = true then ∃ v', e = .returned (.tuple #[.agg #[.int .i64 c, .int .i64 r, v'], .bool true]) ∧ CRow w' w.heap.size v' xs ∧ Below w.heap.size w w'
  else e = .returned (.tuple #[.agg #[.int .i64 0, .int .i64 0, .slice none 0 0], .bool false]) ∧ Below w.heap.size w w'
theorem crow_other {w w' : World} {base n c b : Nat} {a : Option Addr} {xs : List Glyph} (h : CRow w base (.slice a n c) xs) (k : w.grownBy w' (some b)) (hb : b < base) : CRow w' base (.slice a n c) xs := World.ownsRow.kept h k (.inr (fun e => by
  have := (World.ownsRow.lt h b e).1
  omega))
set_option maxRecDepth 10000 in
set_option maxHeartbeats 2000000 in
theorem gown_any (c r f b d l : Int) (a : Option Addr) (n cp : Nat) (xs : List Glyph) (w : World) (hl : Cells w a n xs) (hcp : n ≤ cp) (ht : Tabs w) : Calls Tryd.prog 60 #[.agg #[.int .i64 c, .int .i64 r, .slice a n cp], .agg #[.int .u32 f, .int .u32 b, .int .u8 d, .int .u16 l]] w (OwnG (gridMay c r xs && penMay f b) c r xs w) := by
  obtain rfl := hl.1
  have HL := Lib.hid hl
  have HT := Lib.hid ht
  clear hl ht
  obtain ⟨mb, hmb⟩ : ∃ mb, gridMay c r xs = mb := ⟨_, rfl⟩
  obtain ⟨pb, hpb⟩ : ∃ pb, penMay f b = pb := ⟨_, rfl⟩
  rw [hmb, hpb]
  have HMB := Lib.hid hmb
  have HPB := Lib.hid hpb
  have hn8 : mb = true → xs.length ≤ 1920 := fun e => by
    subst e
    obtain ⟨C, R, _, _, h⟩ := gmay_iff.1 hmb
    rw [h.2.2.2.2.1]
    exact mul_bound h.2.1 h.2.2.2.1
  clear hmb hpb
  have B0 : Hid (Below w.heap.size w (((w.alloc (.cells #[.int .i64 c, .int .i64 r, .slice a xs.length cp] 49)).alloc (.cells #[.int .u32 f, .int .u32 b, .int .u8 d, .int .u16 l] 26)).alloc (.cells #[.int .i64 0, .int .i64 0, .slice none 0 0] 49))) := (((Below.refl _ _).alloc (Nat.le_refl _) _).alloc (by simp) _).alloc (by simp; omega) _
  have G0 : Hid (Own (((w.alloc (.cells #[.int .i64 c, .int .i64 r, .slice a xs.length cp] 49)).alloc (.cells #[.int .u32 f, .int .u32 b, .int .u8 d, .int .u16 l] 26)).alloc (.cells #[.int .i64 0, .int .i64 0, .slice none 0 0] 49)) w.heap.size 49 #[.int .i64 c, .int .i64 r, .slice a xs.length cp]) := ((Own.new w 49 _).alloc _).alloc _
  have P0' : Own (((w.alloc (.cells #[.int .i64 c, .int .i64 r, .slice a xs.length cp] 49)).alloc (.cells #[.int .u32 f, .int .u32 b, .int .u8 d, .int .u16 l] 26)).alloc (.cells #[.int .i64 0, .int .i64 0, .slice none 0 0] 49)) (w.heap.size + 1) 26 #[.int .u32 f, .int .u32 b, .int .u8 d, .int .u16 l] := by
    have h := (Own.new (w.alloc (.cells #[.int .i64 c, .int .i64 r, .slice a xs.length cp] 49)) 26 #[.int .u32 f, .int .u32 b, .int .u8 d, .int .u16 l]).alloc (.cells #[.int .i64 0, .int .i64 0, .slice none 0 0] 49)
    simpa using h
  have A0' : Own (((w.alloc (.cells #[.int .i64 c, .int .i64 r, .slice a xs.length cp] 49)).alloc (.cells #[.int .u32 f, .int .u32 b, .int .u8 d, .int .u16 l] 26)).alloc (.cells #[.int .i64 0, .int .i64 0, .slice none 0 0] 49)) (w.heap.size + 2) 49 #[.int .i64 0, .int .i64 0, .slice none 0 0] := by
    have h := Own.new ((w.alloc (.cells #[.int .i64 c, .int .i64 r, .slice a xs.length cp] 49)).alloc (.cells #[.int .u32 f, .int .u32 b, .int .u8 d, .int .u16 l] 26)) 49 #[.int .i64 0, .int .i64 0, .slice none 0 0]
    simpa using h
  have P0 := Lib.hid P0'
  have A0 := Lib.hid A0'
  have hz0 : w.heap.size + 3 ≤ (((w.alloc (.cells #[.int .i64 c, .int .i64 r, .slice a xs.length cp] 49)).alloc (.cells #[.int .u32 f, .int .u32 b, .int .u8 d, .int .u16 l] 26)).alloc (.cells #[.int .i64 0, .int .i64 0, .slice none 0 0] 49)).heap.size := by simp
  clear P0' A0'
  have g0 := Own.cell G0.out 0
  have g1 := Own.cell G0.out 1
  have g2 := Own.cell G0.out 2
  simp only [List.getElem?_toArray, List.getElem?_cons_zero, List.getElem?_cons_succ] at g0 g1 g2
  go_enter Tryd.func60, Tryd.ntmps60
  go_wp2_with fail
  refine (RVal.as (gmay_any c r a xs.length cp xs _ (HL.out.below B0.out) hcp (HT.out.below B0.out)) (congrArg Value.bool HMB.out)).mono ?_
  generalize ((w.alloc (.cells #[.int .i64 c, .int .i64 r, .slice a xs.length cp] 49)).alloc (.cells #[.int .u32 f, .int .u32 b, .int .u8 d, .int .u16 l] 26)).alloc (.cells #[.int .i64 0, .int .i64 0, .slice none 0 0] 49) = w0 at B0 G0 P0 A0 hz0 g0 g1 g2 ⊢
  rintro e w1 ⟨rfl, b1⟩
  have B1 : Hid (Below w.heap.size w w1) := B0.out.trans (b1.mono B0.out.size)
  have G1 := Lib.hid (G0.out.below b1 (by omega))
  have P1 := Lib.hid (P0.out.below b1 (by omega))
  have A1 := Lib.hid (A0.out.below b1 (by omega))
  have hz1 : w.heap.size + 3 ≤ w1.heap.size := Nat.le_trans hz0 b1.size
  clear b1 g0 g1 g2
  cases mb with
  | false =>
    have hA := A1.out
    go_wp2_with (first
      | (refine gvstore_list rfl _ _ rfl (c := 0) (r := 0) (sa := none) (sn := 0) (sc := 0) rfl rfl hA ?_; intro w2 o2 k2; have O2 := Lib.hid o2; have B2 : Hid (Below w.heap.size w w2) := below_grown B1.out k2 (by omega) B1.out.size; clear o2 k2 hA)
      | go_in)
    have g0 := Own.cell O2.out 0
    have g1 := Own.cell O2.out 1
    have g2 := Own.cell O2.out 2
    simp only [List.getElem?_toArray, List.getElem?_cons_zero, List.getElem?_cons_succ] at g0 g1 g2
    (try simp only [Exit.inBlock, Exit.then])
    refine bodyPost_ret (v := .tuple #[.agg #[.int .i64 0, .int .i64 0, .slice none 0 0], .bool false]) (by simp [results, Tryd.results60, go_sem, g0, g1, g2]) rfl ?_
    unfold OwnG
    rw [Bool.false_and, if_neg (by decide)]
    exact ⟨rfl, B2.out⟩
  | true =>
    have e0 := Own.cell P1.out 0
    have e1 := Own.cell P1.out 1
    have e2 := Own.cell P1.out 2
    have e3 := Own.cell P1.out 3
    simp only [List.getElem?_toArray, List.getElem?_cons_zero, List.getElem?_cons_succ] at e0 e1 e2 e3
    go_wp2_with fail
    refine (RVal.as (gpen_any f b d l _) (congrArg Value.bool HPB.out)).mono ?_
    rintro e w2 ⟨rfl, b2⟩
    have B2 : Hid (Below w.heap.size w w2) := B1.out.trans (b2.mono B1.out.size)
    have G2 := Lib.hid (G1.out.below b2 (by omega))
    have P2 := Lib.hid (P1.out.below b2 (by omega))
    have A2 := Lib.hid (A1.out.below b2 (by omega))
    have hz2 : w.heap.size + 3 ≤ w2.heap.size := Nat.le_trans hz1 b2.size
    clear b2 e0 e1 e2 e3
    cases pb with
    | false =>
      have hA := A2.out
      go_wp2_with (first
        | (refine gvstore_list rfl _ _ rfl (c := 0) (r := 0) (sa := none) (sn := 0) (sc := 0) rfl rfl hA ?_; intro w3 o3 k3; have O3 := Lib.hid o3; have B3 : Hid (Below w.heap.size w w3) := below_grown B2.out k3 (by omega) B2.out.size; clear o3 k3 hA)
        | go_in)
      have g0 := Own.cell O3.out 0
      have g1 := Own.cell O3.out 1
      have g2 := Own.cell O3.out 2
      simp only [List.getElem?_toArray, List.getElem?_cons_zero, List.getElem?_cons_succ] at g0 g1 g2
      (try simp only [Exit.inBlock, Exit.then])
      refine bodyPost_ret (v := .tuple #[.agg #[.int .i64 0, .int .i64 0, .slice none 0 0], .bool false]) (by simp [results, Tryd.results60, go_sem, g0, g1, g2]) rfl ?_
      unfold OwnG
      rw [Bool.and_false, if_neg (by decide)]
      exact ⟨rfl, B3.out⟩
    | true =>
      have hn := hn8 (by first | rfl | trivial)
      have g0 := Own.cell G2.out 0
      have g1 := Own.cell G2.out 1
      have g2 := Own.cell G2.out 2
      simp only [List.getElem?_toArray, List.getElem?_cons_zero, List.getElem?_cons_succ] at g0 g1 g2
      go_wp2_with fail
      refine (gclone_any a xs.length cp xs _ (HL.out.below B2.out) (by omega)).mono ?_
      rintro e w3 ⟨v3, rfl, r3, b3⟩
      have B3 : Hid (Below w.heap.size w w3) := B2.out.trans (b3.mono B2.out.size)
      have G3 := Lib.hid (G2.out.below b3 (by omega))
      have P3 := Lib.hid (P2.out.below b3 (by omega))
      have A3 := Lib.hid (A2.out.below b3 (by omega))
      have hz3 : w.heap.size + 3 ≤ w3.heap.size := Nat.le_trans hz2 b3.size
      obtain ⟨va, vc, rfl, _⟩ := r3.cells
      have R3 : Hid (CRow w3 w2.heap.size (.slice va xs.length vc) xs) := r3
      clear r3 b3 g0 g1 g2
      have hG := G3.out
      go_upto_region 4 with (first
        | (refine gcstore_list rfl _ _ rfl (sa := va) (sn := xs.length) (sc := vc) rfl rfl hG ?_; intro w4 o4 k4; have G4 := Lib.hid o4; have B4 : Hid (Below w.heap.size w w4) := below_grown B3.out k4 (by omega) B3.out.size; have A4 := Lib.hid (A3.out.grown k4 (by intro e; injection e with e; omega)); have R4 : Hid (CRow w4 w2.heap.size (.slice va xs.length vc) xs) := crow_other R3.out k4 (by omega); clear o4 k4 hG)
        | go_in)
      (try simp only [Act.put])
      have g0 := Own.cell G4.out 0
      have g1 := Own.cell G4.out 1
      have g2 := Own.cell G4.out 2
      simp only [List.getElem?_toArray, List.getElem?_cons_zero, List.getElem?_cons_succ] at g0 g1 g2
      have hA := A4.out
      go_wp2_with (first
        | (refine gvstore_list rfl _ _ rfl (c := c) (r := r) (sa := va) (sn := xs.length) (sc := vc) rfl rfl hA ?_; intro w5 o5 k5; have O5 := Lib.hid o5; have B5 : Hid (Below w.heap.size w w5) := below_grown B4.out k5 (by omega) B4.out.size; have R5 : Hid (CRow w5 w2.heap.size (.slice va xs.length vc) xs) := crow_other R4.out k5 (by omega); clear o5 k5 hA)
        | go_in)
      clear g0 g1 g2
      have g0 := Own.cell O5.out 0
      have g1 := Own.cell O5.out 1
      have g2 := Own.cell O5.out 2
      simp only [List.getElem?_toArray, List.getElem?_cons_zero, List.getElem?_cons_succ] at g0 g1 g2
      (try simp only [Exit.inBlock, Exit.then])
      refine bodyPost_ret (v := .tuple #[.agg #[.int .i64 c, .int .i64 r, .slice va xs.length vc], .bool true]) (by simp [results, Tryd.results60, go_sem, g0, g1, g2]) rfl ?_
      unfold OwnG
      rw [Bool.true_and, if_pos rfl]
      exact ⟨_, rfl, R5.out.up (by have := B2.out.size; omega), B5.out⟩
/-- One of its rows, new. -/
noncomputable def growP (c r : Int) (xs : List Glyph) (y : Int) : List Glyph := if gridMay c r xs = true ∧ 0 ≤ y ∧ y < r then rowOf c.toNat y.toNat xs else []
set_option maxRecDepth 10000 in
set_option maxHeartbeats 2000000 in
theorem growfn_any (c r y : Int) (a : Option Addr) (n cp : Nat) (xs : List Glyph) (w : World) (hl : Cells w a n xs) (hcp : n ≤ cp) (ht : Tabs w) : Calls Tryd.prog 35 #[.agg #[.int .i64 c, .int .i64 r, .slice a n cp], .int .i64 y] w (GPost (growP c r xs y) w) := by
  obtain rfl := hl.1
  have HL := Lib.hid hl
  have HT := Lib.hid ht
  clear hl ht
  obtain ⟨mb, hmb⟩ : ∃ mb, gridMay c r xs = mb := ⟨_, rfl⟩
  have HMB := Lib.hid hmb
  have B0 : Hid (Below w.heap.size w (w.alloc (.cells #[.int .i64 c, .int .i64 r, .slice a xs.length cp] 49))) := (Below.refl _ _).alloc (Nat.le_refl _) _
  have G0 : Hid (Own (w.alloc (.cells #[.int .i64 c, .int .i64 r, .slice a xs.length cp] 49)) w.heap.size 49 #[.int .i64 c, .int .i64 r, .slice a xs.length cp]) := Own.new w 49 _
  have hz0 : w.heap.size < (w.alloc (.cells #[.int .i64 c, .int .i64 r, .slice a xs.length cp] 49)).heap.size := by simp
  have g0 := Own.cell G0.out 0
  have g1 := Own.cell G0.out 1
  have g2 := Own.cell G0.out 2
  simp only [List.getElem?_toArray, List.getElem?_cons_zero, List.getElem?_cons_succ] at g0 g1 g2
  go_enter Tryd.func35, Tryd.ntmps35
  go_wp2_with fail
  refine (RVal.as (gmay_any c r a xs.length cp xs _ (HL.out.below B0.out) hcp (HT.out.below B0.out)) (congrArg Value.bool HMB.out)).mono ?_
  generalize w.alloc (.cells #[.int .i64 c, .int .i64 r, .slice a xs.length cp] 49) = w0 at B0 G0 hz0 g0 g1 g2 ⊢
  rintro e w1 ⟨rfl, b1⟩
  have B1 : Hid (Below w.heap.size w w1) := B0.out.trans (b1.mono B0.out.size)
  have G1 := Lib.hid (G0.out.below b1 hz0)
  clear b1 g0 g1 g2
  have g0 := Own.cell G1.out 0
  have g1 := Own.cell G1.out 1
  have g2 := Own.cell G1.out 2
  simp only [List.getElem?_toArray, List.getElem?_cons_zero, List.getElem?_cons_succ] at g0 g1 g2
  cases mb with
  | false =>
    have HF : Hid (growP c r xs y = []) := if_neg (fun h => by rw [HMB.out] at h; cases h.1)
    clear hmb
    go_wp2_with fail
    go_ret
    exact ⟨_, rfl, by rw [HF.out]; exact CRow.nil _ _, B1.out⟩
  | true =>
    cases hy0 : decide (y < 0) with
    | true =>
      have HF : Hid (growP c r xs y = []) := if_neg (fun h => by have := of_decide_eq_true hy0; omega)
      clear hmb
      go_wp2_with fail
      go_ret
      exact ⟨_, rfl, by rw [HF.out]; exact CRow.nil _ _, B1.out⟩
    | false =>
      cases hy1 : decide (r ≤ y) with
      | true =>
        have HF : Hid (growP c r xs y = []) := if_neg (fun h => by have := of_decide_eq_true hy1; omega)
        clear hmb
        go_wp2_with fail
        go_ret
        exact ⟨_, rfl, by rw [HF.out]; exact CRow.nil _ _, B1.out⟩
      | false =>
        have q0 := of_decide_eq_false hy0
        have q1 := of_decide_eq_false hy1
        obtain ⟨C, R, rfl, rfl, hok⟩ := gmay_iff.1 hmb
        obtain ⟨Y, rfl⟩ : ∃ Y : Nat, y = Y := ⟨y.toNat, by omega⟩
        obtain ⟨o1, o2, o3, o4, o5, _⟩ := hok
        have hYR : Y < R := by omega
        have HF : Hid (growP C R xs Y = rowOf C Y xs) := by unfold growP; rw [if_pos ⟨HMB.out, by omega, by omega⟩, Int.toNat_natCast, Int.toNat_natCast]; rfl
        have hmr := mul_row (c := C) hYR
        have hpos : 0 < C * R := Nat.mul_pos (by omega) (by omega)
        obtain ⟨g, off, rfl, hg, _⟩ := HL.out.2.2 (by omega)
        have HGC := Lib.hid (grow_any C Y R g off xs.length cp R w1 o1 o2 hYR o4 o5 hcp)
        have HPART : Hid (Cells w1 (some ⟨g, off + Y * C * 6, none⟩) C (rowOf C Y xs)) := cells_part (HL.out.below B1.out) (s := Y * C) (m := C) (by omega)
        clear hmb hmr hpos o5 q0 q1
        go_wp2_with fail
        refine HGC.out.mono ?_
        rintro e w2 ⟨rfl, b2⟩
        have B2 : Hid (Below w.heap.size w w2) := B1.out.trans (b2.mono B1.out.size)
        have HP2 := Lib.hid (HPART.out.below b2)
        clear b2 g0 g1 g2
        go_wp2_with fail
        refine (gclone_any _ C C _ _ HP2.out (by omega)).mono ?_
        rintro e w3 ⟨v3, rfl, r3, b3⟩
        have R3 := Lib.hid (r3.up B2.out.size)
        have B3 : Hid (Below w.heap.size w w3) := B2.out.trans (b3.mono B2.out.size)
        clear r3 b3
        go_wp2_with fail
        go_ret
        exact ⟨_, rfl, by rw [HF.out]; exact R3.out, B3.out⟩
end Go.Proofs.YtlhcehealjdbdaaDoor
/- A grid in which a row was turned. -/
namespace Go.Proofs.YtlhcehealjdbdaaDoor
open Go.RowKit
set_option linter.unusedSimpArgs false
set_option linter.unusedVariables false
attribute [local go_sem] alloc_drewN setCell_drewN


def GG (c r : Int) (xs : List Glyph) (w : World) (e : Ending) (w' : World) : Prop := ∃ v', e = .returned (.agg #[.int .i64 c, .int .i64 r, v']) ∧ CRow w' w.heap.size v' xs ∧ Below w.heap.size w w'
section
variable {w : World} {o : Oper} {a : Act} {Q : Exit → Act → World → Prop}
/-- A part of a row written over by other cells. -/
theorem gpart_op {K : Act → World → Prop} (p q : Operand) (ho : o.op = .call { callee := .builtin .copy, args := #[p, q], argTypes := #[29, 29] }) {base g n c : Nat} {xs qs : List Glyph} (ds m : Nat) {dp sp : Option Addr} {dl sl dc sc : Nat}
    (hd : a.eval p = .slice dp dl dc) (hs : a.eval q = .slice sp sl sc) (hr : CRow w base (.slice (some ⟨g, 0, none⟩) n c) xs) (hq : Cells w sp sl qs) (hm : m = Nat.min sl dl) (hdl : ds + m ≤ n)
    (hdp : 0 < m → dp = some ⟨g, ds * 6, none⟩)
    (h : ∀ w', CRow w' base (.slice (some ⟨g, 0, none⟩) n c) (xs.take ds ++ qs.take m ++ xs.drop (ds + m)) → w.grownBy w' (some g) → K (a.put o.dst (goInt m)) w') : Oper.wp Tryd.prog o a w K Q := by
  have hz := crow_len hr
  have hql := hq.1
  have hms : m ≤ sl := by rw [hm]; exact Nat.min_le_left _ _
  rcases hr.2 with ⟨h1, _⟩ | ⟨g', cap, cur, h1, h2, h3, h4, h5, h6, h7⟩
  · cases h1
  · injection h1 with h0 h1 h8
    injection h0 with h0
    injection h0 with h0
    subst h0 h8
    rw [hz] at h7 h4 h1
    have hcs : flat (qs.take m) = (flat qs).take (m * 6) := by rw [flat_take]
    have hcl : (flat (qs.take m)).length = m * 6 := by rw [flat_len, List.length_take]; congr 1; omega
    obtain ⟨tl, hcur⟩ : ∃ tl, cur.toList = flat xs ++ tl := ⟨cur.toList.drop (n * 6), by rw [← h7]; exact (List.take_append_drop _ _).symm⟩
    have hxl := flat_len xs
    refine gcopy_op p q 29 29 ho 28 6 Tryd.underlying29 gsize dp sp dl dc sl sc hd hs g (ds * 6) cur.toList 28 (by simpa using h3) (flat (qs.take m)) m hm hcl (fun h0 => ?_) (by rw [hcl]; simp; omega) (flat_one _) base w (Below.refl _ _) h2 (fun w' k1 _ k3 => h w' ?_ k3.out)
    · obtain ⟨ad, had, hsrc⟩ := gsrc_cells hq (by omega)
      refine ⟨hdp h0, ad, had, fun j v hj => ?_⟩
      rw [hcs, List.getElem?_take] at hj
      split at hj
      · exact hsrc j v hj
      · cases hj
    · have hsh : (xs.take ds ++ qs.take m ++ xs.drop (ds + m)).length = n := by
        rw [List.length_append, List.length_append, List.length_take, List.length_take, List.length_drop]
        omega
      have k1' := k1.out
      refine ⟨by rw [flat_len], .inr ⟨g, c, _, by rw [hsh], h2, k1', by rw [hsh]; exact h4, h5, ?_, ?_⟩⟩
      · simp [splice, hcl] at h6 ⊢
        omega
      · rw [hsh, hcur]
        unfold splice
        have e1 : (flat xs ++ tl).take (ds * 6) = (flat xs).take (ds * 6) := List.take_append_of_le_length (by rw [hxl]; omega)
        have e2 : (flat xs ++ tl).drop (ds * 6 + m * 6) = (flat xs).drop (ds * 6 + m * 6) ++ tl := List.drop_append_of_le_length (by rw [hxl]; omega)
        rw [hcl, e1, e2, flat_app, flat_app, flat_take xs, flat_drop xs (ds + m), show (ds + m) * 6 = ds * 6 + m * 6 from by omega]
        show List.take (n * 6) (_ ++ (_ ++ (_ ++ tl))) = _
        rw [← List.append_assoc, ← List.append_assoc]
        refine List.take_left' ?_
        simp [hcl, hxl]
        omega
end
noncomputable def turnP (c r : Int) (xs : List Glyph) (y f b : Int) (tf : List Glyph → List Glyph) : List Glyph :=
  if (gridMay c r xs && penMay f b) = true then (if 0 ≤ y ∧ y < r then setRow xs c.toNat y.toNat (tf (rowOf c.toNat y.toNat xs)) else xs) else []
noncomputable def okI (c r : Int) (xs : List Glyph) (f b v : Int) : Int := if (gridMay c r xs && penMay f b) = true then v else 0
end Go.Proofs.YtlhcehealjdbdaaDoor
/- A grid in which a row was turned, by a closure. -/
namespace Go.Proofs.YtlhcehealjdbdaaDoor
open Go.RowKit
set_option linter.unusedSimpArgs false
set_option linter.unusedVariables false
attribute [local go_sem] alloc_drewN setCell_drewN

set_option maxRecDepth 10000 in
set_option maxHeartbeats 4000000 in
theorem turned73_any (c r y f b d l : Int) (p1 p2 p3 : Addr) (tf : List Glyph → List Glyph) (a : Option Addr) (n cp : Nat) (xs : List Glyph) (w : World) (hl : Cells w a n xs) (hcp : n ≤ cp) (ht : Tabs w)
    (hturn : ∀ (a' : Option Addr) (n' c' : Nat) (l' : List Glyph) (w' : World), Below w.heap.size w w' → Cells w' a' n' l' → Calls Tryd.prog 73 #[.slice a' n' c', .pointer (some p1), .pointer (some p2), .pointer (some p3)] w' (GPost (tf l') w'))
    (hlen : penMay f b = true → ∀ l', RowOk l' → (tf l').length = l'.length) :
    Calls Tryd.prog 72 #[.agg #[.int .i64 c, .int .i64 r, .slice a n cp], .int .i64 y, .agg #[.int .u32 f, .int .u32 b, .int .u8 d, .int .u16 l], (.func (.func 73) #[] #[.pointer (some p1), .pointer (some p2), .pointer (some p3)])] w (GG (okI c r xs f b c) (okI c r xs f b r) (turnP c r xs y f b tf) w) := by
  obtain rfl := hl.1
  have HL := Lib.hid hl
  have HT := Lib.hid ht
  have HTURN := Lib.hid hturn
  have HLEN := Lib.hid hlen
  clear hl ht hturn hlen
  obtain ⟨ok, hok⟩ : ∃ ok, (gridMay c r xs && penMay f b) = ok := ⟨_, rfl⟩
  have HOK := Lib.hid hok
  have HGO := Lib.hid (fun w0 hB hT => gown_any c r f b d l a xs.length cp xs w0 (HL.out.below (w' := w0) hB) hcp hT)
  rw [hok] at HGO
  have B0 : Hid (Below w.heap.size w (((w.alloc (.cells #[.int .i64 c, .int .i64 r, .slice a xs.length cp] 49)).alloc (.cells #[.int .u32 f, .int .u32 b, .int .u8 d, .int .u16 l] 26)).alloc (.cells #[.int .i64 0, .int .i64 0, .slice none 0 0] 49))) := (((Below.refl _ _).alloc (Nat.le_refl _) _).alloc (by simp) _).alloc (by simp; omega) _
  have G0 : Hid (Own (((w.alloc (.cells #[.int .i64 c, .int .i64 r, .slice a xs.length cp] 49)).alloc (.cells #[.int .u32 f, .int .u32 b, .int .u8 d, .int .u16 l] 26)).alloc (.cells #[.int .i64 0, .int .i64 0, .slice none 0 0] 49)) w.heap.size 49 #[.int .i64 c, .int .i64 r, .slice a xs.length cp]) := ((Own.new w 49 _).alloc _).alloc _
  have P0' : Own (((w.alloc (.cells #[.int .i64 c, .int .i64 r, .slice a xs.length cp] 49)).alloc (.cells #[.int .u32 f, .int .u32 b, .int .u8 d, .int .u16 l] 26)).alloc (.cells #[.int .i64 0, .int .i64 0, .slice none 0 0] 49)) (w.heap.size + 1) 26 #[.int .u32 f, .int .u32 b, .int .u8 d, .int .u16 l] := by
    have h := (Own.new (w.alloc (.cells #[.int .i64 c, .int .i64 r, .slice a xs.length cp] 49)) 26 #[.int .u32 f, .int .u32 b, .int .u8 d, .int .u16 l]).alloc (.cells #[.int .i64 0, .int .i64 0, .slice none 0 0] 49)
    simpa using h
  have A0' : Own (((w.alloc (.cells #[.int .i64 c, .int .i64 r, .slice a xs.length cp] 49)).alloc (.cells #[.int .u32 f, .int .u32 b, .int .u8 d, .int .u16 l] 26)).alloc (.cells #[.int .i64 0, .int .i64 0, .slice none 0 0] 49)) (w.heap.size + 2) 49 #[.int .i64 0, .int .i64 0, .slice none 0 0] := by
    have h := Own.new ((w.alloc (.cells #[.int .i64 c, .int .i64 r, .slice a xs.length cp] 49)).alloc (.cells #[.int .u32 f, .int .u32 b, .int .u8 d, .int .u16 l] 26)) 49 #[.int .i64 0, .int .i64 0, .slice none 0 0]
    simpa using h
  have P0 := Lib.hid P0'
  have A0 := Lib.hid A0'
  have hz0 : w.heap.size + 3 ≤ (((w.alloc (.cells #[.int .i64 c, .int .i64 r, .slice a xs.length cp] 49)).alloc (.cells #[.int .u32 f, .int .u32 b, .int .u8 d, .int .u16 l] 26)).alloc (.cells #[.int .i64 0, .int .i64 0, .slice none 0 0] 49)).heap.size := by simp
  clear P0' A0'
  have g0 := Own.cell G0.out 0
  have g1 := Own.cell G0.out 1
  have g2 := Own.cell G0.out 2
  simp only [List.getElem?_toArray, List.getElem?_cons_zero, List.getElem?_cons_succ] at g0 g1 g2
  have e0 := Own.cell P0.out 0
  have e1 := Own.cell P0.out 1
  have e2 := Own.cell P0.out 2
  have e3 := Own.cell P0.out 3
  simp only [List.getElem?_toArray, List.getElem?_cons_zero, List.getElem?_cons_succ] at e0 e1 e2 e3
  go_enter Tryd.func72, Tryd.ntmps72
  go_wp2_with fail
  refine (HGO.out _ B0.out (HT.out.below B0.out)).mono ?_
  clear HGO
  generalize ((w.alloc (.cells #[.int .i64 c, .int .i64 r, .slice a xs.length cp] 49)).alloc (.cells #[.int .u32 f, .int .u32 b, .int .u8 d, .int .u16 l] 26)).alloc (.cells #[.int .i64 0, .int .i64 0, .slice none 0 0] 49) = w0 at B0 G0 P0 A0 hz0 g0 g1 g2 e0 e1 e2 e3 ⊢
  clear g0 g1 g2 e0 e1 e2 e3
  cases ok with
  | false =>
    have HF : Hid (okI c r xs f b c = 0 ∧ okI c r xs f b r = 0 ∧ turnP c r xs y f b tf = []) := by unfold okI turnP; rw [hok]; exact ⟨rfl, rfl, rfl⟩
    clear hok
    rintro e w1 ⟨rfl, b1⟩
    have B1 : Hid (Below w.heap.size w w1) := B0.out.trans (b1.mono B0.out.size)
    have G1 := Lib.hid (G0.out.below b1 (by omega))
    have P1 := Lib.hid (P0.out.below b1 (by omega))
    have A1 := Lib.hid (A0.out.below b1 (by omega))
    have hz1 : w.heap.size + 3 ≤ w1.heap.size := Nat.le_trans hz0 b1.size
    clear b1
    have hG := G1.out
    go_upto_region 2 with (first
      | (refine gvstore_list rfl _ _ rfl (c := 0) (r := 0) (sa := none) (sn := 0) (sc := 0) rfl rfl hG ?_; intro w2 o2 k2; have G2 := Lib.hid o2; have B2 : Hid (Below w.heap.size w w2) := below_grown B1.out k2 (Nat.le_refl _) B1.out.size; have A2 := Lib.hid (A1.out.grown k2 (by intro e; injection e with e; omega)); clear o2 k2 hG)
      | go_in)
    (try simp only [Act.put])
    have g0 := Own.cell G2.out 0
    have g1 := Own.cell G2.out 1
    have g2 := Own.cell G2.out 2
    simp only [List.getElem?_toArray, List.getElem?_cons_zero, List.getElem?_cons_succ] at g0 g1 g2
    have hA := A2.out
    go_wp2_with (first
      | (refine gvstore_list rfl _ _ rfl (c := 0) (r := 0) (sa := none) (sn := 0) (sc := 0) rfl rfl hA ?_; intro w3 o3 k3; have O3 := Lib.hid o3; have B3 : Hid (Below w.heap.size w w3) := below_grown B2.out k3 (by omega) B2.out.size; clear o3 k3 hA)
      | go_in)
    clear g0 g1 g2
    have g0 := Own.cell O3.out 0
    have g1 := Own.cell O3.out 1
    have g2 := Own.cell O3.out 2
    simp only [List.getElem?_toArray, List.getElem?_cons_zero, List.getElem?_cons_succ] at g0 g1 g2
    (try simp only [Exit.inBlock, Exit.then])
    refine bodyPost_ret (v := .agg #[.int .i64 0, .int .i64 0, .slice none 0 0]) (by simp [results, Tryd.results72, go_sem, g0, g1, g2]) rfl ?_
    obtain ⟨h1, h2, h3⟩ := HF.out
    rw [h1, h2, h3]
    exact ⟨_, rfl, CRow.nil _ _, B3.out⟩
  | true =>
    rintro e w1 ⟨v1, rfl, r1, b1⟩
    have B1 : Hid (Below w.heap.size w w1) := B0.out.trans (b1.mono B0.out.size)
    have G1 := Lib.hid (G0.out.below b1 (by omega))
    have P1 := Lib.hid (P0.out.below b1 (by omega))
    have A1 := Lib.hid (A0.out.below b1 (by omega))
    have hz1 : w.heap.size + 3 ≤ w1.heap.size := Nat.le_trans hz0 b1.size
    obtain ⟨va, vc, rfl, _⟩ := r1.cells
    obtain ⟨C, R, rfl, rfl, hgo⟩ := gmay_iff.1 (Bool.and_eq_true_iff.1 hok).1
    obtain ⟨o1, o2, o3, o4, o5, o6⟩ := hgo
    have hpos : 0 < C * R := Nat.mul_pos (by omega) (by omega)
    have HRO := Lib.hid o6
    have hpen := (Bool.and_eq_true_iff.1 hok).2
    obtain ⟨g, rfl⟩ := crow_addr r1 (by omega)
    have hgb : w0.heap.size ≤ g := (crow_at r1 (k := 0) (by omega)).2.1
    have hvc := crow_cap r1 (by omega)
    have R1 : Hid (CRow w1 w0.heap.size (.slice (some ⟨g, 0, none⟩) xs.length vc) xs) := r1
    have HO5 := Lib.hid o5
    clear r1 b1 o6 o5
    have HOI : Hid (okI C R xs f b C = C ∧ okI C R xs f b R = R) := by unfold okI; rw [hok]; exact ⟨rfl, rfl⟩
    have HTP : Hid (turnP C R xs y f b tf = if 0 ≤ y ∧ y < (R : Int) then setRow xs C y.toNat (tf (rowOf C y.toNat xs)) else xs) := by unfold turnP; rw [hok, if_pos rfl, Int.toNat_natCast]; rfl
    have HPEN := Lib.hid hpen
    clear hok hpen
    have hG := G1.out
    go_upto_region 2 with (first
      | (refine gvstore_list rfl _ _ rfl (c := C) (r := R) (sa := some ⟨g, 0, none⟩) (sn := xs.length) (sc := vc) rfl rfl hG ?_; intro w2 o2 k2; have G2 := Lib.hid o2; have B2 : Hid (Below w.heap.size w w2) := below_grown B1.out k2 (Nat.le_refl _) B1.out.size; have A2 := Lib.hid (A1.out.grown k2 (by intro e; injection e with e; omega)); have R2 : Hid (CRow w2 w0.heap.size (.slice (some ⟨g, 0, none⟩) xs.length vc) xs) := crow_other R1.out k2 (by omega); have hz2 : w.heap.size + 3 ≤ w2.heap.size := Nat.le_trans hz1 k2.size; clear o2 k2 hG)
      | go_in)
    (try simp only [Act.put])
    have g0 := Own.cell G2.out 0
    have g1 := Own.cell G2.out 1
    have g2 := Own.cell G2.out 2
    simp only [List.getElem?_toArray, List.getElem?_cons_zero, List.getElem?_cons_succ] at g0 g1 g2
    by_cases hy : 0 ≤ y ∧ y < (R : Int)
    · obtain ⟨Y, rfl⟩ : ∃ Y : Nat, y = Y := ⟨y.toNat, by omega⟩
      have hYR : Y < R := by omega
      have hd0 : decide ((0 : Int) ≤ (Y : Int)) = true := decide_eq_true hy.1
      have hd1 : decide (Y < R) = true := decide_eq_true hYR
      have HF : Hid (turnP C R xs Y f b tf = setRow xs C Y (tf (rowOf C Y xs))) := by rw [HTP.out, if_pos hy, Int.toNat_natCast]; rfl
      have hmr := mul_row (c := C) hYR
      have HTL : Hid ((tf (rowOf C Y xs)).length = C) := (HLEN.out HPEN.out _ (HRO.out Y hYR)).trans (row_len HO5.out hYR)
      have D4 : Hid (Below w.heap.size w w2.drew) := below_drewN B2.out 1
      have R4 : Hid (CRow w2.drew w0.heap.size (.slice (some ⟨g, 0, none⟩) xs.length vc) xs) := R2.out
      have z4 : w.heap.size + 3 ≤ w2.drew.heap.size := hz2
      have S4 : Hid (w2.drew.cell? ⟨w.heap.size, 0, none⟩ = some (.int .i64 C) ∧ w2.drew.cell? ⟨w.heap.size, 1, none⟩ = some (.int .i64 R) ∧ w2.drew.cell? ⟨w.heap.size, 2, none⟩ = some (.slice (some ⟨g, 0, none⟩) xs.length vc)) := ⟨g0, g1, g2⟩
      have G4 : Hid (Own w2.drew w.heap.size 49 #[.int .i64 C, .int .i64 R, .slice (some ⟨g, 0, none⟩) xs.length vc]) := G2.out
      have A4 : Hid (Own w2.drew (w.heap.size + 2) 49 #[.int .i64 0, .int .i64 0, .slice none 0 0]) := A2.out
      have H4 : Hid (Below w2.drew.heap.size w2.drew w2.drew) := Below.refl _ _
      clear hy
      go_wp2_with fail
      clear g0 g1 g2
      refine wp_region_bits_at (S := fun w' => w'.cell? ⟨w.heap.size, 0, none⟩ = some (.int .i64 C) ∧ w'.cell? ⟨w.heap.size, 1, none⟩ = some (.int .i64 R) ∧ w'.cell? ⟨w.heap.size, 2, none⟩ = some (.slice (some ⟨g, 0, none⟩) xs.length vc)) [(0, true), (1, true), (3, true), (4, true), (5, true), (2, false), (6, false), (7, false), (8, false)] [8] (by kernel_rfl) (by kernel_rfl) (fun c a d v w h => by cases d <;> exact h) S4.out ?_
      simp only [bits_, bitOf, List.getElem?_cons_zero, List.getElem?_cons_succ, List.contains_nil, List.contains_cons, Nat.reduceBEq, Bool.or_false]
      repeat (first | (refine bits_take (v := ?_) (by rfl) ?_ ?_; rotate_left; (· intro w' hS; obtain ⟨s0, s1, s2⟩ := hS; go_simp; (try (go_ints; try go_simp)); with_reducible rfl); (try simp only [Act.put, List.setIfInBounds_toArray, List.set_cons_zero, List.set_cons_succ])) | (refine bits_skip (by rfl) ?_; (try simp only [Act.put, List.setIfInBounds_toArray, List.set_cons_zero, List.set_cons_succ])))
      refine bits_eff (by rfl) (fun K hK => ?_)
      go_simp
      (try go_ints)
      refine (grow_any C Y R g 0 xs.length vc R _ o1 o2 hYR o4 HO5.out hvc).mono ?_
      rintro e w5 ⟨rfl, b5⟩
      have D5 : Hid (Below w.heap.size w w5) := D4.out.trans (b5.mono D4.out.size)
      have R5 := Lib.hid (R4.out.below b5)
      have z5 : w.heap.size + 3 ≤ w5.heap.size := Nat.le_trans z4 b5.size
      have S5 : Hid (w5.cell? ⟨w.heap.size, 0, none⟩ = some (.int .i64 C) ∧ w5.cell? ⟨w.heap.size, 1, none⟩ = some (.int .i64 R) ∧ w5.cell? ⟨w.heap.size, 2, none⟩ = some (.slice (some ⟨g, 0, none⟩) xs.length vc)) := ⟨(b5.cell (p := ⟨w.heap.size, 0, none⟩) (by show w.heap.size < w2.drew.heap.size; omega)).trans S4.out.1, (b5.cell (p := ⟨w.heap.size, 1, none⟩) (by show w.heap.size < w2.drew.heap.size; omega)).trans S4.out.2.1, (b5.cell (p := ⟨w.heap.size, 2, none⟩) (by show w.heap.size < w2.drew.heap.size; omega)).trans S4.out.2.2⟩
      have H5 : Hid (Below w2.drew.heap.size w2.drew w5) := H4.out.trans (b5.mono H4.out.size)
      clear b5
      refine hK _ _ ?_ ?_
      · exact S5.out
      clear hK K
      (try simp only [Act.put, List.setIfInBounds_toArray, List.set_cons_zero, List.set_cons_succ])
      repeat (first | (refine bits_take (v := ?_) (by rfl) ?_ ?_; rotate_left; (· intro w' hS; obtain ⟨s0, s1, s2⟩ := hS; go_simp; (try (go_ints; try go_simp)); with_reducible rfl); (try simp only [Act.put, List.setIfInBounds_toArray, List.set_cons_zero, List.set_cons_succ])) | (refine bits_skip (by rfl) ?_; (try simp only [Act.put, List.setIfInBounds_toArray, List.set_cons_zero, List.set_cons_succ])))
      refine bits_eff (by rfl) (fun K hK => ?_)
      go_simp
      (try go_ints)
      refine (grow_any C Y R g 0 xs.length vc R _ o1 o2 hYR o4 HO5.out hvc).mono ?_
      rintro e w6 ⟨rfl, b6⟩
      have D6 : Hid (Below w.heap.size w w6) := D5.out.trans (b6.mono D5.out.size)
      have R6 := Lib.hid (R5.out.below b6)
      have z6 : w.heap.size + 3 ≤ w6.heap.size := Nat.le_trans z5 b6.size
      have S6 : Hid (w6.cell? ⟨w.heap.size, 0, none⟩ = some (.int .i64 C) ∧ w6.cell? ⟨w.heap.size, 1, none⟩ = some (.int .i64 R) ∧ w6.cell? ⟨w.heap.size, 2, none⟩ = some (.slice (some ⟨g, 0, none⟩) xs.length vc)) := ⟨(b6.cell (p := ⟨w.heap.size, 0, none⟩) (by show w.heap.size < w5.heap.size; omega)).trans S5.out.1, (b6.cell (p := ⟨w.heap.size, 1, none⟩) (by show w.heap.size < w5.heap.size; omega)).trans S5.out.2.1, (b6.cell (p := ⟨w.heap.size, 2, none⟩) (by show w.heap.size < w5.heap.size; omega)).trans S5.out.2.2⟩
      have H6 : Hid (Below w2.drew.heap.size w2.drew w6) := H5.out.trans (b6.mono H5.out.size)
      have HPART : Hid (Cells w6 (some ⟨g, Y * C * 6, none⟩) C (rowOf C Y xs)) := by
        have h := cells_part (cells_of R6.out) (s := Y * C) (m := C) (by have := HO5.out; omega)
        rw [Nat.zero_add] at h
        exact h
      clear b6
      refine hK _ _ ?_ ?_
      · exact S6.out
      clear hK K
      (try simp only [Act.put, List.setIfInBounds_toArray, List.set_cons_zero, List.set_cons_succ])
      repeat (first | (refine bits_take (v := ?_) (by rfl) ?_ ?_; rotate_left; (· intro w' hS; obtain ⟨s0, s1, s2⟩ := hS; go_simp; (try (go_ints; try go_simp)); with_reducible rfl); (try simp only [Act.put, List.setIfInBounds_toArray, List.set_cons_zero, List.set_cons_succ])) | (refine bits_skip (by rfl) ?_; (try simp only [Act.put, List.setIfInBounds_toArray, List.set_cons_zero, List.set_cons_succ])))
      refine bits_eff (by rfl) (fun K hK => ?_)
      go_simp
      (try go_ints)
      refine (HTURN.out _ C C (rowOf C Y xs) w6 D6.out HPART.out).mono ?_
      rintro e w7 ⟨v7, rfl, r7, b7⟩
      have D7 : Hid (Below w.heap.size w w7) := D6.out.trans (b7.mono D6.out.size)
      have R7 := Lib.hid (R6.out.below b7)
      have z7 : w.heap.size + 3 ≤ w7.heap.size := Nat.le_trans z6 b7.size
      have S7 : Hid (w7.cell? ⟨w.heap.size, 0, none⟩ = some (.int .i64 C) ∧ w7.cell? ⟨w.heap.size, 1, none⟩ = some (.int .i64 R) ∧ w7.cell? ⟨w.heap.size, 2, none⟩ = some (.slice (some ⟨g, 0, none⟩) xs.length vc)) := ⟨(b7.cell (p := ⟨w.heap.size, 0, none⟩) (by show w.heap.size < w6.heap.size; omega)).trans S6.out.1, (b7.cell (p := ⟨w.heap.size, 1, none⟩) (by show w.heap.size < w6.heap.size; omega)).trans S6.out.2.1, (b7.cell (p := ⟨w.heap.size, 2, none⟩) (by show w.heap.size < w6.heap.size; omega)).trans S6.out.2.2⟩
      have H7 : Hid (Below w2.drew.heap.size w2.drew w7) := H6.out.trans (b7.mono H6.out.size)
      obtain ⟨ta, tc, rfl, tl⟩ := r7.cells
      have TL := Lib.hid tl
      clear b7 r7 tl
      refine hK _ _ ?_ ?_
      · exact S7.out
      clear hK K
      (try simp only [Act.put, List.setIfInBounds_toArray, List.set_cons_zero, List.set_cons_succ])
      repeat (first | (refine bits_take (v := ?_) (by rfl) ?_ ?_; rotate_left; (· intro w' hS; obtain ⟨s0, s1, s2⟩ := hS; go_simp; (try (go_ints; try go_simp)); with_reducible rfl); (try simp only [Act.put, List.setIfInBounds_toArray, List.set_cons_zero, List.set_cons_succ])) | (refine bits_skip (by rfl) ?_; (try simp only [Act.put, List.setIfInBounds_toArray, List.set_cons_zero, List.set_cons_succ])))
      refine bits_tail (by rfl) (fun K hK => ?_)
      refine gpart_op _ _ rfl (Y * C) C rfl rfl R7.out TL.out ?_ ?_ ?_ fun w8 r8 k8 => ?_
      · rw [HTL.out]; exact (Nat.min_self C).symm
      · have := HO5.out; omega
      · exact fun _ => rfl
      refine hK _ _ ?_
      clear hK K
      (try simp only [Act.put])
      repeat (first | (refine bits_take (v := ?_) (by rfl) ?_ ?_; rotate_left; (· intro w' hS; obtain ⟨s0, s1, s2⟩ := hS; go_simp; (try (go_ints; try go_simp)); with_reducible rfl); (try simp only [Act.put, List.setIfInBounds_toArray, List.set_cons_zero, List.set_cons_succ])) | (refine bits_skip (by rfl) ?_; (try simp only [Act.put, List.setIfInBounds_toArray, List.set_cons_zero, List.set_cons_succ])))
      refine bits_nil ?_
      have G8 := Lib.hid ((G4.out.below H7.out G4.out.lt).grown k8 (by intro e; injection e with e; omega))
      have A8 := Lib.hid ((A4.out.below H7.out A4.out.lt).grown k8 (by intro e; injection e with e; omega))
      have R8 : Hid (CRow w8 w0.heap.size (.slice (some ⟨g, 0, none⟩) xs.length vc) (setRow xs C Y (tf (rowOf C Y xs)))) := by
        rw [List.take_of_length_le (l := tf (rowOf C Y xs)) (by rw [HTL.out]; exact Nat.le_refl _)] at r8
        exact r8
      have B8 : Hid (Below w.heap.size w w8) := below_grown D7.out k8 (by omega) D7.out.size
      clear r8 k8
      have g0 := Own.cell G8.out 0
      have g1 := Own.cell G8.out 1
      have g2 := Own.cell G8.out 2
      simp only [List.getElem?_toArray, List.getElem?_cons_zero, List.getElem?_cons_succ] at g0 g1 g2
      have hA := A8.out
      go_wp2_with (first
        | (refine gvstore_list rfl _ _ rfl (c := C) (r := R) (sa := some ⟨g, 0, none⟩) (sn := xs.length) (sc := vc) rfl rfl hA ?_; intro w9 o9 k9; have O9 := Lib.hid o9; have B9 : Hid (Below w.heap.size w w9) := below_grown B8.out k9 (by omega) B8.out.size; have R9 : Hid (CRow w9 w0.heap.size (.slice (some ⟨g, 0, none⟩) xs.length vc) (setRow xs C Y (tf (rowOf C Y xs)))) := crow_other R8.out k9 (by omega); clear o9 k9 hA)
        | go_in)
      clear g0 g1 g2
      have g0 := Own.cell O9.out 0
      have g1 := Own.cell O9.out 1
      have g2 := Own.cell O9.out 2
      simp only [List.getElem?_toArray, List.getElem?_cons_zero, List.getElem?_cons_succ] at g0 g1 g2
      (try simp only [Exit.inBlock, Exit.then])
      refine bodyPost_ret (v := .agg #[.int .i64 C, .int .i64 R, .slice (some ⟨g, 0, none⟩) xs.length vc]) (by simp [results, Tryd.results72, go_sem, g0, g1, g2]) rfl ?_
      rw [HOI.out.1, HOI.out.2, HF.out]
      exact ⟨_, rfl, R9.out.up B0.out.size, B9.out⟩
    · have HF : Hid (turnP C R xs y f b tf = xs) := by rw [HTP.out, if_neg hy]; rfl
      have hA := A2.out
      go_upto_region 2 with fail
      go_cut [26] (fun v wc => v = .bool false ∧ wc = w2)
      case first =>
        cases hd0 : decide ((0 : Int) ≤ y) with
        | false =>
          go_wp2_with fail
          go_meet
          exact ⟨rfl, rfl⟩
        | true =>
          have hd1 : decide (y < (R : Int)) = false := decide_eq_false (fun h => hy ⟨of_decide_eq_true hd0, h⟩)
          go_wp2_with fail
          go_meet
          exact ⟨rfl, rfl⟩
      case rest =>
        obtain ⟨rfl, rfl⟩ := hcut
        go_wp2_with (first
          | (refine gvstore_list rfl _ _ rfl (c := C) (r := R) (sa := some ⟨g, 0, none⟩) (sn := xs.length) (sc := vc) rfl rfl hA ?_; intro w9 o9 k9; have O9 := Lib.hid o9; have B9 : Hid (Below w.heap.size w w9) := below_grown B2.out k9 (by omega) B2.out.size; have R9 : Hid (CRow w9 w0.heap.size (.slice (some ⟨g, 0, none⟩) xs.length vc) xs) := crow_other R2.out k9 (by omega); clear o9 k9 hA)
          | go_in)
        clear g0 g1 g2
        have g0 := Own.cell O9.out 0
        have g1 := Own.cell O9.out 1
        have g2 := Own.cell O9.out 2
        simp only [List.getElem?_toArray, List.getElem?_cons_zero, List.getElem?_cons_succ] at g0 g1 g2
        (try simp only [Exit.inBlock, Exit.then])
        refine bodyPost_ret (v := .agg #[.int .i64 C, .int .i64 R, .slice (some ⟨g, 0, none⟩) xs.length vc]) (by simp [results, Tryd.results72, go_sem, g0, g1, g2]) rfl ?_
        rw [HOI.out.1, HOI.out.2, HF.out]
        exact ⟨_, rfl, R9.out.up B0.out.size, B9.out⟩
end Go.Proofs.YtlhcehealjdbdaaDoor
