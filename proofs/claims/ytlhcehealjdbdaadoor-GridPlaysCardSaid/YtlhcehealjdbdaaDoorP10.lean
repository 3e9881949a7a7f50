/- Part 10 of the texts that GridPlays stands on, one behind the other. -/
import Derived.Test.YtlhcehealjdbdaaDoorP9
import Derived.Test.YtlhcehealjdbdaaDoorP6
import Derived.Deep.DeepCutAuto
import Derived.Test.YtlhcehealjdbdaaDoorP5
import Derived.Test.YtlhcehealjdbdaaDoorP3
import Derived.Test.YtlhcehealjdbdaaDoorP4
/- The rows of a grid, as the document takes them. -/
namespace Go.Proofs.YtlhcehealjdbdaaDoor
open Go.RowKit
set_option linter.unusedSimpArgs false
set_option linter.unusedVariables false
attribute [local go_sem] alloc_drewN setCell_drewN


def rowsL (C R : Nat) (xs : List Glyph) : List (List Glyph) := (List.range R).map fun y => rowOf C y xs
theorem rowsL_len (C R : Nat) (xs : List Glyph) : (rowsL C R xs).length = R := by simp [rowsL]
theorem rowsL_at {C R y : Nat} {xs : List Glyph} (h : y < R) : (rowsL C R xs).getD y [] = rowOf C y xs := by
  unfold rowsL
  rw [List.getD_eq_getElem?_getD, List.getElem?_map, List.getElem?_range h]
  rfl
theorem rowsL_next {C q : Nat} {xs : List Glyph} : rowsL C q xs ++ [rowOf C q xs] = rowsL C (q + 1) xs := by
  unfold rowsL
  rw [List.range_succ, List.map_append]
  rfl
theorem rows_step {C q : Nat} {xs : List Glyph} (h : ∀ y, y < q → RowOk (rowOf C y xs)) (k : RowOk (rowOf C q xs)) : ∀ y, y < q + 1 → RowOk (rowOf C y xs) := fun y hy => by
  rcases Nat.lt_or_ge y q with e | e
  · exact h y e
  · obtain rfl : y = q := by omega
    exact k
theorem rw_ne {w : World} {b g : Nat} {v : Value} {L : List (List Glyph)} {cs : Array Value} (h : RowsAt w b v L) (ho : Own w g 49 cs) : some g ≠ v.ownBlock := by
  obtain ⟨vs, _, k2, _⟩ := h
  intro e
  exact (apart_own k2 ho (by decide)).elim (fun h => by rw [h] at e; cases e) (fun h => h e.symm)
def RowsPost (c r : Int) (xs : List Glyph) (w : World) (e : Ending) (w' : World) : Prop :=
  if gridMay c r xs = true then ∃ v', e = .returned (.tuple #[v', .bool true]) ∧ RowsAt w' w.heap.size v' (rowsL c.toNat r.toNat xs) ∧ Below w.heap.size w w'
  else e = .returned (.tuple #[.slice none 0 0, .bool false]) ∧ Below w.heap.size w w'
def RwRel (w : World) (c r : Int) (C : Nat) (a : Option Addr) (n cp : Nat) (xs : List Glyph) (q : Nat) (vo : Value) (wr : World) : Prop :=
  RowsAt wr w.heap.size vo (rowsL C q xs) ∧ Own wr w.heap.size 49 #[.int .i64 c, .int .i64 r, .slice a n cp] ∧ Below w.heap.size w wr ∧ ∀ y, y < q → RowOk (rowOf C y xs)
set_option maxRecDepth 10000 in
set_option maxHeartbeats 4000000 in
theorem ref_rows_any (c r : Int) (a : Option Addr) (n cp : Nat) (xs : List Glyph) (w : World) (hl : Cells w a n xs) (hcp : n ≤ cp) : Calls Tryd.prog 37 #[.agg #[.int .i64 c, .int .i64 r, .slice a n cp]] w (RowsPost c r xs w) := by
  obtain rfl := hl.1
  have HL := Lib.hid hl
  have hn63 := hl.2.1
  clear hl
  have B0 : Hid (Below w.heap.size w (w.alloc (.cells #[.int .i64 c, .int .i64 r, .slice a xs.length cp] 49))) := (Below.refl _ _).alloc (Nat.le_refl _) _
  have G0 : Hid (Own (w.alloc (.cells #[.int .i64 c, .int .i64 r, .slice a xs.length cp] 49)) w.heap.size 49 #[.int .i64 c, .int .i64 r, .slice a xs.length cp]) := Own.new w 49 _
  have hz0 : (w.alloc (.cells #[.int .i64 c, .int .i64 r, .slice a xs.length cp] 49)).heap.size = w.heap.size + 1 := by simp
  have g0 := Own.cell G0.out 0
  have g1 := Own.cell G0.out 1
  have g2 := Own.cell G0.out 2
  simp only [List.getElem?_toArray, List.getElem?_cons_zero, List.getElem?_cons_succ] at g0 g1 g2
  go_enter Tryd.func37, Tryd.ntmps37
  go_upto_region 1 with fail
  generalize w.alloc (.cells #[.int .i64 c, .int .i64 r, .slice a xs.length cp] 49) = w0 at B0 G0 hz0 g0 g1 g2 ⊢
  obtain ⟨bad, hbad⟩ : ∃ bad, (!(fitsB c r && decide ((xs.length : Int) = c * r))) = bad := ⟨_, rfl⟩
  have HBAD := Lib.hid hbad
  clear hbad
  go_cut [35] (fun v wc => v = .bool bad ∧ w0 = wc)
  case first =>
    cases t1 : decide (c < 1) with
    | true =>
      have HE : Hid (bad = true) := by rw [← HBAD.out]; unfold fitsB; rw [decide_eq_false (p := 1 ≤ c) (by have := of_decide_eq_true t1; omega)]; rfl
      go_wp2_with fail
      go_meet
      exact ⟨by rw [HE.out], rfl⟩
    | false =>
    cases t2 : decide (80 < c) with
    | true =>
      have HE : Hid (bad = true) := by rw [← HBAD.out]; unfold fitsB; rw [decide_eq_false (p := c ≤ 80) (by have := of_decide_eq_true t2; omega)]; simp; exact True.intro
      go_wp2_with fail
      go_meet
      exact ⟨by rw [HE.out], rfl⟩
    | false =>
    cases t3 : decide (r < 1) with
    | true =>
      have HE : Hid (bad = true) := by rw [← HBAD.out]; unfold fitsB; rw [decide_eq_false (p := 1 ≤ r) (by have := of_decide_eq_true t3; omega)]; simp; exact True.intro
      go_wp2_with fail
      go_meet
      exact ⟨by rw [HE.out], rfl⟩
    | false =>
    cases t4 : decide (24 < r) with
    | true =>
      have HE : Hid (bad = true) := by rw [← HBAD.out]; unfold fitsB; rw [decide_eq_false (p := r ≤ 24) (by have := of_decide_eq_true t4; omega)]; simp; exact True.intro
      go_wp2_with fail
      go_meet
      exact ⟨by rw [HE.out], rfl⟩
    | false =>
      have q1 := of_decide_eq_false t1
      have q2 := of_decide_eq_false t2
      have q3 := of_decide_eq_false t3
      have q4 := of_decide_eq_false t4
      obtain ⟨C, rfl⟩ : ∃ C : Nat, c = C := ⟨c.toNat, by omega⟩
      obtain ⟨R, rfl⟩ : ∃ R : Nat, r = R := ⟨r.toNat, by omega⟩
      have hbnd := mul_bound (c := C) (r := R) (by omega) (by omega)
      obtain ⟨P, hP⟩ : ∃ P, C * R = P := ⟨_, rfl⟩
      have k1 : (C : Int) * (R : Int) = (P : Int) := by rw [← hP]; exact (Int.natCast_mul C R).symm
      rw [hP] at hbnd
      have hfit : fitsB C R = true := fits_iff.2 ⟨by omega, by omega, by omega, by omega⟩
      have HE : Hid (bad = !decide ((xs.length : Int) = (P : Int))) := by rw [← HBAD.out, hfit, k1, Bool.true_and]; rfl
      clear hP hfit
      cases t5 : ((xs.length : Int) != (P : Int)) with
      | true =>
        have t6 : (xs.length != P) = true := bne_iff_ne.2 (by have := bne_iff_ne.1 t5; omega)
        have HE2 : Hid (bad = true) := by rw [HE.out, decide_eq_false (bne_iff_ne.1 t5)]; rfl
        clear q1 q2 q3 q4
        go_wp2_with fail
        go_meet
        exact ⟨by rw [HE2.out], rfl⟩
      | false =>
        have t6 : (xs.length != P) = false := bne_eq_false_iff_eq.2 (by have := bne_eq_false_iff_eq.1 t5; omega)
        have HE2 : Hid (bad = false) := by rw [HE.out, decide_eq_true (bne_eq_false_iff_eq.1 t5)]; rfl
        clear q1 q2 q3 q4
        go_wp2_with fail
        go_meet
        exact ⟨by rw [HE2.out], rfl⟩
  case rest =>
    obtain ⟨rfl, rfl⟩ := hcut
    clear g0 g1 g2
    cases bad with
    | true =>
      have HZ : Hid (gridMay c r xs = false) := gmay_no (fun ⟨C, R, e1, e2, h⟩ => by
        have e3 : fitsB c r = true := fits_iff.2 (by have h1 := h.1; have h2 := h.2.1; have h3 := h.2.2.1; have h4 := h.2.2.2.1; omega)
        have e4 : (xs.length : Int) = c * r := by rw [e1, e2, h.2.2.2.2.1]; exact Int.natCast_mul C R
        have := HBAD.out
        rw [e3, decide_eq_true e4] at this
        cases this)
      go_wp2_with fail
      go_ret2
      unfold RowsPost
      rw [if_neg (by rw [HZ.out]; decide)]
      exact ⟨rfl, B0.out⟩
    | false =>
      have hfit : fitsB c r = true ∧ (xs.length : Int) = c * r := by
        have h := HBAD.out
        have h := Bool.and_eq_true_iff.1 (show (fitsB c r && decide ((xs.length : Int) = c * r)) = true by simpa using h)
        exact ⟨h.1, of_decide_eq_true h.2⟩
      obtain ⟨⟨a1, a2, a3, a4⟩, hnn⟩ := (⟨fits_iff.1 hfit.1, hfit.2⟩ : _ ∧ _)
      obtain ⟨C, rfl⟩ : ∃ C : Nat, c = C := ⟨c.toNat, by omega⟩
      obtain ⟨R, rfl⟩ : ∃ R : Nat, r = R := ⟨r.toNat, by omega⟩
      have hn : xs.length = C * R := by have := Int.natCast_mul C R; omega
      have HN := Lib.hid hn
      have hpos : 0 < C * R := Nat.mul_pos (by omega) (by omega)
      have hbnd := mul_bound (c := C) (r := R) (by omega) (by omega)
      rw [← hn] at hbnd hpos
      obtain ⟨ga, goff, rfl, hga, _⟩ := HL.out.2.2 hpos
      have hC8 : C ≤ 80 := by omega
      have hR24 : R ≤ 24 := by omega
      clear hfit hnn hn
      go_upto_region 4 with fail
      have HL0 : Hid (RwRel w C R C (some ⟨ga, goff, none⟩) xs.length cp xs 0 (.slice (some ⟨w0.heap.size, 0, none⟩) 0 0) (w0.alloc (.cells #[] 29))) := by
        obtain ⟨vs, k1, k2, k3⟩ := RowsAt.nil w0
        refine ⟨⟨vs, k1, ?_, k3⟩, G0.out.alloc _, B0.out.alloc B0.out.size _, fun y hy => absurd hy (by omega)⟩
        refine ⟨k2.1, ?_⟩
        rcases k2.2 with hn | ⟨g', cap, cur, h1, h2, h3⟩
        · exact .inl hn
        · exact .inr ⟨g', cap, cur, h1, by omega, h3⟩
      generalize w0.alloc (.cells #[] 29) = w1 at HL0 ⊢
      rw [hz0] at HL0
      clear G0 hz0
      go_wp2_with fail
      go_loopw [4, 5] (fun vo v wr => ∃ q : Nat, q ≤ R ∧ v = .int .i64 q ∧ Hid (RwRel w C R C (some ⟨ga, goff, none⟩) xs.length cp xs q vo wr)) (fun _ v _ => R - (intOf v).toNat)
      case atStart => exact ⟨0, by omega, rfl, HL0⟩
      case round =>
        obtain ⟨q, hq1, rfl, HR⟩ := hrel
        clear HL0
        obtain ⟨oa, oc, hvo⟩ := rows_form HR.out.1
        rw [rowsL_len] at hvo
        subst hvo
        by_cases hq : q < R
        · have hdq : decide (q < R) = true := decide_eq_true hq
          have HQ : Hid (q < R) := hq
          have hmr := mul_row (c := C) hq
          obtain ⟨Z, hZ⟩ : ∃ Z, q * C = Z := ⟨_, rfl⟩
          have k1 : (q : Int) * (C : Int) = (Z : Int) := by rw [← hZ]; exact (Int.natCast_mul q C).symm
          rw [hZ] at hmr
          have hZn : Z + C ≤ xs.length := by rw [HN.out]; exact hmr
          have i1 : (Z : Int) + C ≤ (cp : Int) := by omega
          have i2 : (0 : Int) ≤ (Z : Int) := by omega
          have i3 : (Z : Int) ≤ (Z : Int) + C := by omega
          have HZ := Lib.hid hZ
          have HPART : Hid (Cells wr (some ⟨ga, goff + Z * 6, none⟩) C (rowOf C q xs)) := by
            have h := cells_part (HL.out.below HR.out.2.2.1) (s := Z) (m := C) hZn
            unfold rowOf
            rw [hZ]
            exact h
          obtain ⟨rb, hrb⟩ : ∃ rb, rowMay (rowOf C q xs) = rb := ⟨_, rfl⟩
          have HRB := Lib.hid hrb
          have HRL : Hid ((rowOf C q xs).length = C) := row_len HN.out hq
          clear hZ hmr hrb
          have g0 := Own.cell HR.out.2.1 0
          have g1 := Own.cell HR.out.2.1 1
          have g2 := Own.cell HR.out.2.1 2
          simp only [List.getElem?_toArray, List.getElem?_cons_zero, List.getElem?_cons_succ] at g0 g1 g2
          go_wp2_with fail
          refine (gcopy_any _ C _ _ wr HPART.out (by omega)).mono ?_
          rintro e w3 ⟨v3, rfl, r3, b3⟩
          obtain ⟨ra, rc, rfl, _⟩ := r3.cells
          rw [HRL.out] at r3 ⊢
          have HX : Hid (RwRel w C R C (some ⟨ga, goff, none⟩) xs.length cp xs q (.slice oa q oc) w3) := ⟨HR.out.1.below b3, HR.out.2.1.below b3 HR.out.2.1.lt, HR.out.2.2.1.trans (b3.mono HR.out.2.2.1.size), HR.out.2.2.2⟩
          have HRW : Hid (CRow w3 0 (.slice ra C rc) (rowOf C q xs)) := r3.up (Nat.zero_le _)
          clear r3 b3 HR g0 g1 g2 HPART
          go_wp2_with fail
          refine (RVal.as (ref_row_any ra C rc _ w3 (cells_of HRW.out)) (congrArg Value.bool HRB.out)).mono ?_
          rintro e w4 ⟨rfl, b4⟩
          have HX4 : Hid (RwRel w C R C (some ⟨ga, goff, none⟩) xs.length cp xs q (.slice oa q oc) w4) := ⟨HX.out.1.below b4, HX.out.2.1.below b4 HX.out.2.1.lt, HX.out.2.2.1.trans (b4.mono HX.out.2.2.1.size), HX.out.2.2.2⟩
          have HRW4 := Lib.hid (HRW.out.below b4)
          clear b4 HX HRW
          cases rb with
          | false =>
            have HZ2 : Hid (gridMay C R xs = false) := gmay_no (fun ⟨C', R', e1, e2, h⟩ => by
              obtain rfl : C' = C := by omega
              obtain rfl : R' = R := by omega
              have := row_yes (h.2.2.2.2.2 q HQ.out)
              rw [HRB.out] at this
              cases this)
            have B9 := Lib.hid HX4.out.2.2.1
            go_wp2_with fail
            go_ret2
            unfold RowsPost
            rw [if_neg (by rw [HZ2.out]; decide)]
            exact ⟨rfl, B9.out⟩
          | true =>
            have hnew := Own.new w4 29 #[.slice ra C rc]
            have hq24 : q ≤ 24 := by omega
            go_wp2_with (first
              | (at_builtin; refine rapp rfl _ _ rfl rfl (HX4.out.1.below ((Below.refl _ _).alloc (Nat.le_refl _) _)) rfl (Own.cell hnew 0) (HRW4.out.alloc _) (by rw [rowsL_len]; omega) (by have := HX4.out.2.2.1.size; simp; omega) ?_; intro v5 w5 r5 k5 b5; have HY : Hid (RwRel w C R C (some ⟨ga, goff, none⟩) xs.length cp xs (q + 1) v5 w5) := ⟨by rw [← rowsL_next]; exact r5, (HX4.out.2.1.alloc _).grown k5 (rw_ne HX4.out.1 HX4.out.2.1), (HX4.out.2.2.1.alloc HX4.out.2.2.1.size _).trans b5, rows_step HX4.out.2.2.2 (row_iff.1 HRB.out)⟩; clear r5 k5 b5)
              | go_in)
            go_roundw
            case rel => exact ⟨q + 1, HQ.out, by go_num, HY⟩
            case measure => have := HQ.out; simp [intOf]; omega
        · obtain rfl : q = R := by omega
          have hdq : decide (q < q) = false := decide_eq_false hq
          have HZ : Hid (gridMay C q xs = true) := gmay_iff.2 ⟨C, q, rfl, rfl, by omega, by omega, by omega, by omega, HN.out, HR.out.2.2.2⟩
          have R9 := Lib.hid HR.out.1
          have B9 := Lib.hid HR.out.2.2.1
          have g0 := Own.cell HR.out.2.1 0
          have g1 := Own.cell HR.out.2.1 1
          have g2 := Own.cell HR.out.2.1 2
          simp only [List.getElem?_toArray, List.getElem?_cons_zero, List.getElem?_cons_succ] at g0 g1 g2
          clear hq HR
          go_wp2_with fail
          go_ret2
          unfold RowsPost
          rw [if_pos HZ.out, Int.toNat_natCast, Int.toNat_natCast]
          exact ⟨_, rfl, R9.out, B9.out⟩
end Go.Proofs.YtlhcehealjdbdaaDoor
/- Rows of pieces, as they lie in memory: seven values each. -/
namespace Go.Proofs.YtlhcehealjdbdaaDoor
open Go.RowKit
set_option linter.unusedSimpArgs false
set_option linter.unusedVariables false
def Pc.cells (p : Pc) : List Value := [.int .i32 p.c.r, .int .u8 p.c.w, .int .u32 p.c.f, .int .u32 p.c.b, .int .u8 p.c.a, .int .u16 p.c.l, .int .i64 p.s]
def pflat : List Pc → List Value
  | [] => []
  | c :: cs => c.cells ++ pflat cs
theorem pflat_len (xs : List Pc) : (pflat xs).length = xs.length * 7 := by
  induction xs with
  | nil => rfl
  | cons c cs ih => simp [pflat, Pc.cells, ih]; omega
theorem pflat_app (xs ys : List Pc) : pflat (xs ++ ys) = pflat xs ++ pflat ys := by
  induction xs with
  | nil => rfl
  | cons c cs ih => simp [pflat, ih]
theorem pflat_take : ∀ (xs : List Pc) (k : Nat), pflat (xs.take k) = (pflat xs).take (k * 7)
  | [], k => by simp [pflat]
  | c :: cs, 0 => by simp [pflat]
  | c :: cs, k + 1 => by
    have h6 : c.cells.length = 7 := rfl
    simp only [pflat, List.take_succ_cons]
    have e : c.cells.take ((k + 1) * 7) = c.cells := List.take_of_length_le (by rw [h6]; omega)
    rw [List.take_append, h6, e, pflat_take cs k, show (k + 1) * 7 - 7 = k * 7 from by omega]
theorem pflat_at : ∀ {xs : List Pc} {i j : Nat}, i < xs.length → j < 7 → (pflat xs)[i * 7 + j]? = (pat xs i).cells[j]?
  | [], _, _, h, _ => absurd h (by simp)
  | c :: cs, 0, j, _, hj => by
    unfold pat
    simp only [pflat, Nat.zero_mul, Nat.zero_add, List.getD_cons_zero]
    rw [List.getElem?_append_left (by simpa [Pc.cells] using hj)]
  | c :: cs, i + 1, j, h, hj => by
    have h6 : c.cells.length = 7 := rfl
    have ih := pflat_at (xs := cs) (i := i) (j := j) (by simpa using h) hj
    unfold pat at ih ⊢
    simp only [pflat, List.getD_cons_succ]
    rw [List.getElem?_append_right (by omega), h6, show (i + 1) * 7 + j - 7 = i * 7 + j from by omega]
    exact ih
theorem pflat_one (xs : List Pc) : ∀ u ∈ pflat xs, u.oneCell' = true := by
  induction xs with
  | nil => simp [pflat]
  | cons c cs ih =>
    intro u hu
    rcases List.mem_append.1 hu with h | h
    · simp only [Pc.cells, List.mem_cons, List.not_mem_nil, or_false] at h
      rcases h with rfl | rfl | rfl | rfl | rfl | rfl | rfl <;> rfl
    · exact ih u h
theorem pflat_set : ∀ {xs : List Pc} {i j : Nat} {c : Pc} {u : Value}, i < xs.length → j < 7 → (pat xs i).cells.set j u = c.cells → (pflat xs).set (i * 7 + j) u = pflat (xs.set i c)
  | [], _, _, _, _, h, _, _ => absurd h (by simp)
  | d :: cs, 0, j, c, u, _, hj, hc => by
    unfold pat at hc
    simp only [List.getD_cons_zero] at hc
    simp only [pflat, Nat.zero_mul, Nat.zero_add, List.set_cons_zero]
    rw [List.set_append_left _ _ (by simpa [Pc.cells] using hj), hc]
  | d :: cs, i + 1, j, c, u, h, hj, hc => by
    have h6 : d.cells.length = 7 := rfl
    unfold pat at hc
    simp only [List.getD_cons_succ] at hc
    simp only [pflat, List.set_cons_succ]
    rw [List.set_append_right _ _ (by omega), h6, show (i + 1) * 7 + j - 7 = i * 7 + j from by omega, pflat_set (by simpa using h) hj hc]
/-- The piece lies there. -/
def PAt (w : World) (b o : Nat) (p : Pc) : Prop := GAt w b o p.c ∧ w.cell? ⟨b, o + 6, none⟩ = some (.int .i64 p.s)
theorem PAt.same {w w' : World} {b o : Nat} {p : Pc} (h : PAt w b o p) (k : ∀ q : Addr, q.block = b → w'.cell? q = w.cell? q) : PAt w' b o p := ⟨h.1.same k, (k _ rfl).trans h.2⟩
/-- A row of pieces of the caller's own. -/
def PRow (w : World) (base : Nat) (v : Value) (xs : List Pc) : Prop := w.ownsRow base 95 7 v xs.length (pflat xs)
section
variable {w w' : World} {base : Nat} {v : Value} {xs : List Pc}
theorem PRow.up (h : PRow w base v xs) {b : Nat} (hb : b ≤ base) : PRow w b v xs := by
  refine ⟨h.1, ?_⟩
  rcases h.2 with hn | ⟨g, cap, cur, h1, h2, h3⟩
  · exact .inl hn
  · exact .inr ⟨g, cap, cur, h1, Nat.le_trans hb h2, h3⟩
theorem PRow.below (h : PRow w base v xs) (hb : Below w.heap.size w w') : PRow w' base v xs := by
  refine ⟨h.1, ?_⟩
  rcases h.2 with hn | ⟨g, cap, cur, h1, h2, h3, h4⟩
  · exact .inl hn
  · exact .inr ⟨g, cap, cur, h1, h2, (hb.block g (Array.getElem?_eq_some_iff.1 h3).1).trans h3, h4⟩
/-- The row lies below B: what is Below B leaves it. -/
theorem PRow.keep {B g n c : Nat} (h : PRow w base (.slice (some ⟨g, 0, none⟩) n c) xs) (hb : Below B w w') (hg : g < B) : PRow w' base (.slice (some ⟨g, 0, none⟩) n c) xs := by
  refine ⟨h.1, ?_⟩
  rcases h.2 with hn | ⟨g', cap, cur, h1, h2, h3, h4⟩
  · exact .inl hn
  · injection h1 with h1 h5 h6
    injection h1 with h1
    injection h1 with h1
    subst h1
    exact .inr ⟨g, cap, cur, by rw [h5, h6], h2, (hb.block g hg).trans h3, h4⟩
theorem PRow.alloc (h : PRow w base v xs) (o : Obj) : PRow (w.alloc o) base v xs := World.ownsRow.alloc h o
theorem prow_len {a : Option Addr} {n c : Nat} (h : PRow w base (.slice a n c) xs) : xs.length = n := by
  rcases h.2 with ⟨h1, h2⟩ | ⟨g, cap, cur, h1, _⟩
  · injection h1 with _ h1 _
    omega
  · injection h1 with _ h1 _
    exact h1.symm
theorem prow_addr {a : Option Addr} {n c : Nat} (h : PRow w base (.slice a n c) xs) (h0 : 0 < n) : ∃ g, a = some ⟨g, 0, none⟩ := by
  rcases h.2 with ⟨h1, h2⟩ | ⟨g, cap, cur, h1, _⟩
  · injection h1 with _ h1 _
    omega
  · injection h1 with h1 _ _
    exact ⟨g, h1⟩
theorem prow_form (h : PRow w base v xs) : ∃ a c, v = .slice a xs.length c := by
  rcases h.2 with ⟨h1, h2⟩ | ⟨g, cap, cur, h1, _⟩
  · exact ⟨none, 0, by rw [h1, h2]⟩
  · exact ⟨_, cap, h1⟩
theorem prow_own {g n c : Nat} (h : PRow w base (.slice (some ⟨g, 0, none⟩) n c) xs) : ∃ cur, Own w g 95 cur ∧ base ≤ g ∧ n ≤ c := by
  rcases h.2 with ⟨h1, _⟩ | ⟨g', cap, cur, h1, h2, h3, h4, _⟩
  · cases h1
  · injection h1 with h0 h1 h8
    injection h0 with h0
    injection h0 with h0
    subst h0
    exact ⟨cur, h3, h2, by omega⟩
theorem prow_at {g n c k : Nat} (h : PRow w base (.slice (some ⟨g, 0, none⟩) n c) xs) (hk : k < n) : PAt w g (k * 7) (pat xs k) ∧ base ≤ g ∧ (∀ j, w.frozen? ⟨g, j, none⟩ = false) ∧ g < w.heap.size := by
  have hz := prow_len h
  have key : ∀ j u, j < 7 → (pat xs k).cells[j]? = some u → w.cell? ⟨g, k * 7 + j, none⟩ = some u := fun j u hj hu => by
    have := World.ownsRow.cells h (g := g) rfl (k * 7 + j) u ((pflat_at (by omega) hj).trans hu)
    rwa [gplain_add] at this
  obtain ⟨cur, ho, hb, _⟩ := prow_own h
  exact ⟨⟨⟨key 0 _ (by omega) rfl, key 1 _ (by omega) rfl, key 2 _ (by omega) rfl, key 3 _ (by omega) rfl, key 4 _ (by omega) rfl, key 5 _ (by omega) rfl⟩, key 6 _ (by omega) rfl⟩, hb, fun j => Own.frozen ho j, ho.lt⟩
theorem prow_put {g n c k j : Nat} {d : Pc} {u : Value} (h : PRow w base (.slice (some ⟨g, 0, none⟩) n c) xs) (hk : k < n) (hj : j < 7) (hd : (pat xs k).cells.set j u = d.cells) :
    PRow (w.setCell ⟨g, k * 7 + j, none⟩ u) base (.slice (some ⟨g, 0, none⟩) n c) (xs.set k d) := by
  have hz := prow_len h
  rcases h.2 with ⟨h1, _⟩ | ⟨g', cap, cur, h1, h2, h3, h4, h5, h6, h7⟩
  · cases h1
  · injection h1 with h0 h1 h8
    injection h0 with h0
    injection h0 with h0
    subst h0 h8
    have ho : Own w g 95 cur := h3
    refine ⟨by rw [pflat_len], .inr ⟨g, c, _, by rw [List.length_set, hz], h2, ho.store (k * 7 + j) u, by rw [List.length_set]; omega, h5, by simp; omega, ?_⟩⟩
    rw [List.length_set, hz]
    rw [hz] at h7
    rw [Array.toList_setIfInBounds, gtake_set, h7]
    exact pflat_set (by omega) hj hd
theorem pset_getD {k : Nat} {d : Pc} (h : k < xs.length) : pat (xs.set k d) k = d := by rw [pset h, if_pos rfl]
/-- A whole piece is stored. -/
theorem prow_set {g n c k : Nat} (d : Pc) (h : PRow w base (.slice (some ⟨g, 0, none⟩) n c) xs) (hk : k < n) :
    PRow ((((((((w.setCell ⟨g, k * 7, none⟩ (.int .i32 d.c.r)).setCell ⟨g, k * 7 + 1, none⟩ (.int .u8 d.c.w)).setCell ⟨g, k * 7 + 2, none⟩ (.int .u32 d.c.f)).setCell ⟨g, k * 7 + 3, none⟩ (.int .u32 d.c.b)).setCell ⟨g, k * 7 + 4, none⟩ (.int .u8 d.c.a)).setCell ⟨g, k * 7 + 5, none⟩ (.int .u16 d.c.l)).setCell ⟨g, k * 7 + 6, none⟩ (.int .i64 d.s))) base (.slice (some ⟨g, 0, none⟩) n c) (xs.set k d) := by
  have hz := prow_len h
  obtain ⟨e, he⟩ : ∃ e, pat xs k = e := ⟨_, rfl⟩
  have h0 := prow_put (j := 0) (d := ⟨⟨d.c.r, e.c.w, e.c.f, e.c.b, e.c.a, e.c.l⟩, e.s⟩) (u := .int .i32 d.c.r) h hk (by omega) (by rw [he]; rfl)
  have h1 := prow_put (j := 1) (d := ⟨⟨d.c.r, d.c.w, e.c.f, e.c.b, e.c.a, e.c.l⟩, e.s⟩) (u := .int .u8 d.c.w) h0 hk (by omega) (by rw [pset_getD (by omega)]; rfl)
  rw [List.set_set] at h1
  have h2 := prow_put (j := 2) (d := ⟨⟨d.c.r, d.c.w, d.c.f, e.c.b, e.c.a, e.c.l⟩, e.s⟩) (u := .int .u32 d.c.f) h1 hk (by omega) (by rw [pset_getD (by omega)]; rfl)
  rw [List.set_set] at h2
  have h3 := prow_put (j := 3) (d := ⟨⟨d.c.r, d.c.w, d.c.f, d.c.b, e.c.a, e.c.l⟩, e.s⟩) (u := .int .u32 d.c.b) h2 hk (by omega) (by rw [pset_getD (by omega)]; rfl)
  rw [List.set_set] at h3
  have h4 := prow_put (j := 4) (d := ⟨⟨d.c.r, d.c.w, d.c.f, d.c.b, d.c.a, e.c.l⟩, e.s⟩) (u := .int .u8 d.c.a) h3 hk (by omega) (by rw [pset_getD (by omega)]; rfl)
  rw [List.set_set] at h4
  have h5 := prow_put (j := 5) (d := ⟨⟨d.c.r, d.c.w, d.c.f, d.c.b, d.c.a, d.c.l⟩, e.s⟩) (u := .int .u16 d.c.l) h4 hk (by omega) (by rw [pset_getD (by omega)]; rfl)
  rw [List.set_set] at h5
  have h6 := prow_put (j := 6) (d := d) (u := .int .i64 d.s) h5 hk (by omega) (by rw [pset_getD (by omega)]; rfl)
  rw [List.set_set] at h6
  exact h6
end
theorem pinfoE : Tryd.prog.info? 95 = some Tryd.t95 := by kernel_rfl
theorem pzeroE : Tryd.t95.zero = some (.agg #[.int .i32 0, .int .u8 0, .int .u32 0, .int .u32 0, .int .u8 0, .int .u16 0, .int .i64 0]) := by kernel_rfl
theorem pbytes : Tryd.t95.bytes = 32 := by kernel_rfl
theorem psize : (Tryd.prog.info? 95).map (·.size) = some 7 := by kernel_rfl
section
variable {o : Oper} {a : Act} {w : World} {Q : Exit → Act → World → Prop}
theorem pstore_run {base g n c k : Nat} {xs : List Pc} (d : Pc) (hr : PRow w base (.slice (some ⟨g, 0, none⟩) n c) xs) (hk : k < n) :
    ∃ w', (Instr.storeAt 95 (.pointer (some ⟨g, k * 7, none⟩)) (.agg #[.int .i32 d.c.r, .int .u8 d.c.w, .int .u32 d.c.f, .int .u32 d.c.b, .int .u8 d.c.a, .int .u16 d.c.l, .int .i64 d.s])).run Tryd.prog w = .ok () w' ∧
      PRow w' base (.slice (some ⟨g, 0, none⟩) n c) (xs.set k d) ∧ w.grownBy w' (some g) := by
  obtain ⟨⟨⟨p0, p1, p2, p3, p4, p5⟩, p6⟩, hbg, hfz, _⟩ := prow_at hr hk
  have f0 := hfz (k * 7)
  have f1 := hfz (k * 7 + 1)
  have f2 := hfz (k * 7 + 2)
  have f3 := hfz (k * 7 + 3)
  have f4 := hfz (k * 7 + 4)
  have f5 := hfz (k * 7 + 5)
  have f6 := hfz (k * 7 + 6)
  refine ⟨_, ?_, prow_set d hr hk, turn_store (turn_store (turn_store (turn_store (turn_store (turn_store (turn_store (turn_refl w _) _ _) _ _) _ _) _ _) _ _) _ _) _ _⟩
  go_simp
theorem pstore_op {K : Act → World → Prop} (p v : Operand) (ho : o.op = .store 95 p v) {base g n c k : Nat} {xs : List Pc} {d : Pc} (hp : a.eval p = .pointer (some ⟨g, k * 7, none⟩)) (hv : a.eval v = .agg #[.int .i32 d.c.r, .int .u8 d.c.w, .int .u32 d.c.f, .int .u32 d.c.b, .int .u8 d.c.a, .int .u16 d.c.l, .int .i64 d.s])
    (hr : PRow w base (.slice (some ⟨g, 0, none⟩) n c) xs) (hk : k < n) (h : ∀ w', PRow w' base (.slice (some ⟨g, 0, none⟩) n c) (xs.set k d) → w.grownBy w' (some g) → K (a.put o.dst undef) w') : Oper.wp Tryd.prog o a w K Q := by
  obtain ⟨w', hrun, h1, h2⟩ := pstore_run d hr hk
  unfold Oper.wp execOp
  simp only [ho, hp, hv, Sem.run_bind, hrun, Result.andThen_ok]
  simp only [Sem.run_pure, Oper.upon]
  exact h w' h1 h2
theorem pstore_list {ops : Array Oper} {rest : List Oper} (hgd : o.guard = none) (p v : Operand) (ho : o.op = .store 95 p v) {base g n c k : Nat} {xs : List Pc} {d : Pc} (hp : a.eval p = .pointer (some ⟨g, k * 7, none⟩)) (hv : a.eval v = .agg #[.int .i32 d.c.r, .int .u8 d.c.w, .int .u32 d.c.f, .int .u32 d.c.b, .int .u8 d.c.a, .int .u16 d.c.l, .int .i64 d.s])
    (hr : PRow w base (.slice (some ⟨g, 0, none⟩) n c) xs) (hk : k < n) (h : ∀ w', PRow w' base (.slice (some ⟨g, 0, none⟩) n c) (xs.set k d) → w.grownBy w' (some g) → wpList Tryd.prog ops Q rest (a.put o.dst undef) w') : wpList Tryd.prog ops Q (o :: rest) a w := by
  refine wpList_plain hgd fun K hK => pstore_op p v ho hp hv hr hk fun w' h1 h2 => hK _ _ ?_
  exact h w' h1 h2
/-- 'append(ps, qs...)', ps the caller's own. -/
theorem papp {ops : Array Oper} {rest : List Oper} (hgd : o.guard = none) (s x : Operand) (ho : o.op = .call { callee := .builtin .append, args := #[s, x], argTypes := #[92, 92] })
    {lo : Nat} {v : Value} {ps : List Pc} (hs : a.eval s = v) (hown : PRow w lo v ps) {ad : Addr} {m c : Nat} {qs : List Pc} (hx : a.eval x = .slice (some ad) m c) (hm : qs.length = m) (hq : ∀ j u, (pflat qs)[j]? = some u → w.cell? (ad.add j) = some u) (hl : ps.length + qs.length ≤ 1000000) (hlo : lo ≤ w.heap.size)
    (h : ∀ v' w', PRow w' lo v' (ps ++ qs) → Below lo w w' → wpList Tryd.prog ops Q rest (a.put o.dst v') w') : wpList Tryd.prog ops Q (o :: rest) a w := by
  subst hm
  refine wpList_append_own w hgd s x 92 ho lo 95 _ _ 7 32 Tryd.underlying92 pinfoE pzeroE (by kernel_rfl) (by kernel_rfl) rfl (by decide) v ps.length (pflat ps) hs hown ad qs.length c (pflat qs) hx (pflat_len qs)
    hq (pflat_one qs) (by unfold maxLen; omega) (by omega) hlo (fun v' w' r1 r2 _ => h v' w' ?_ ?_)
  · show w'.ownsRow lo 95 7 v' (ps ++ qs).length (pflat (ps ++ qs))
    rw [List.length_append, pflat_app]
    exact r1
  · exact (Below.refl lo w).grown r2 hlo (fun k hk => (World.ownsRow.lt hown k hk).1)
end
theorem pempty_row (w : World) : PRow (w.alloc (.cells #[] 95)) w.heap.size (.slice (some ⟨w.heap.size, 0, none⟩) 0 0) [] :=
  World.ownsRow_made (base := w.heap.size) (e := 95) (size := 7) w #[] 0 (Nat.le_refl _) (by decide) rfl
/-- The first m pieces of a row, as a source. -/
theorem prow_src {w : World} {base g n c m : Nat} {ps : List Pc} (h : PRow w base (.slice (some ⟨g, 0, none⟩) n c) ps) : ∀ j u, (pflat (ps.take m))[j]? = some u → w.cell? ((⟨g, 0, none⟩ : Addr).add j) = some u := fun j u hj => by
  rw [pflat_take, List.getElem?_take] at hj
  split at hj
  · have := World.ownsRow.cells h (g := g) rfl j u hj
    exact this
  · cases hj
/-- One piece just built, as a source. -/
theorem one_src {w : World} {g : Nat} {p : Pc} (h : Own w g 95 p.cells.toArray) : ∀ j u, (pflat [p])[j]? = some u → w.cell? ((⟨g, 0, none⟩ : Addr).add j) = some u := fun j u hj => by
  rw [gplain_add, h.cell j]
  simpa [pflat] using hj
end Go.Proofs.YtlhcehealjdbdaaDoor
/- A row as pieces, as they stand: the document's walk. -/
namespace Go.Proofs.YtlhcehealjdbdaaDoor
open Go.RowKit
set_option linter.unusedSimpArgs false
set_option linter.unusedVariables false
attribute [local go_sem] alloc_drewN setCell_drewN


theorem pext {xs ys : List Pc} (h : xs.length = ys.length) (k : ∀ j, j < xs.length → pat xs j = pat ys j) : xs = ys := by
  refine List.ext_getElem h fun j h1 h2 => ?_
  have := k j h1
  unfold pat at this
  rwa [List.getD_eq_getElem?_getD, List.getD_eq_getElem?_getD, List.getElem?_eq_getElem h1, List.getElem?_eq_getElem h2] at this
def pfrom (n : Nat) (f : Nat → Pc) : List Pc := (List.range n).map f
theorem pfrom_len (n : Nat) (f : Nat → Pc) : (pfrom n f).length = n := by simp [pfrom]
theorem pfrom_pt {n : Nat} {f : Nat → Pc} {i : Nat} (h : i < n) : pat (pfrom n f) i = f i := by
  unfold pat pfrom
  rw [List.getD_eq_getElem?_getD, List.getElem?_map, List.getElem?_range h]
  rfl
/-- What the loop of pieces has laid behind k rounds. -/
def fillPc (xs : List Glyph) (k : Nat) : List Pc := pfrom xs.length fun i => if i < k then ⟨at_ xs i, i⟩ else p0
theorem fillPc_zero (xs : List Glyph) : fillPc xs 0 = List.replicate xs.length p0 := by
  refine pext (by rw [fillPc, pfrom_len, List.length_replicate]) fun j hj => ?_
  rw [fillPc, pfrom_len] at hj
  rw [fillPc, pfrom_pt hj, if_neg (by omega)]
  unfold pat
  rw [List.getD_eq_getElem?_getD, List.getElem?_replicate, if_pos hj]
  rfl
theorem fillPc_all (xs : List Glyph) : fillPc xs xs.length = piecesP xs := by
  refine pext (by rw [fillPc, pfrom_len, pieces_len]) fun j hj => ?_
  rw [fillPc, pfrom_len] at hj
  rw [fillPc, pfrom_pt hj, if_pos hj, pieces_pt hj]
theorem fillPc_set {xs : List Glyph} {k : Nat} (hk : k < xs.length) : (fillPc xs k).set k ⟨at_ xs k, k⟩ = fillPc xs (k + 1) := by
  refine pext (by rw [List.length_set, fillPc, fillPc, pfrom_len, pfrom_len]) fun j hj => ?_
  rw [List.length_set, fillPc, pfrom_len] at hj
  rw [pset (by rw [fillPc, pfrom_len]; exact hk), fillPc, fillPc, pfrom_pt hj, pfrom_pt hj]
  by_cases h1 : j = k
  · rw [if_pos h1, if_pos (by omega), h1]
  · rw [if_neg h1]
    by_cases h2 : j < k
    · rw [if_pos h2, if_pos (by omega)]
    · rw [if_neg h2, if_neg (by omega)]
theorem prep_at {n i : Nat} : pat (List.replicate n p0) i = p0 := by
  unfold pat
  rw [List.getD_eq_getElem?_getD, List.getElem?_replicate]
  split <;> rfl
theorem pflat_zero (n : Nat) : (madeCells (Value.agg #[.int .i32 0, .int .u8 0, .int .u32 0, .int .u32 0, .int .u8 0, .int .u16 0, .int .i64 0]).cells (n * 7)).toList = pflat (List.replicate n p0) := by
  refine List.ext_getElem? fun j => ?_
  rcases Nat.lt_or_ge j (n * 7) with hj | hj
  · obtain ⟨i, r, hr, rfl⟩ : ∃ i r, r < 7 ∧ j = i * 7 + r := ⟨j / 7, j % 7, Nat.mod_lt _ (by omega), by omega⟩
    rw [pflat_at (by simp; omega) hr, prep_at]
    have h6 : (Value.agg #[.int .i32 0, .int .u8 0, .int .u32 0, .int .u32 0, .int .u8 0, .int .u16 0, .int .i64 0]).cells.size = 7 := rfl
    simp only [madeCells, Array.toList_map, List.getElem?_map, Array.toList_range, List.getElem?_range hj, Option.map_some, h6]
    rw [show (i * 7 + r) % 7 = r from by omega]
    match r, hr with
    | 0, _ => rfl
    | 1, _ => rfl
    | 2, _ => rfl
    | 3, _ => rfl
    | 4, _ => rfl
    | 5, _ => rfl
    | 6, _ => rfl
  · rw [List.getElem?_eq_none (by simpa [size_madeCells] using hj), List.getElem?_eq_none (by rw [pflat_len, List.length_replicate]; exact hj)]
theorem pmake_row {w : World} {base n : Nat} {v : Value} (h : w.ownsRow base 95 7 v n (madeCells (Value.agg #[.int .i32 0, .int .u8 0, .int .u32 0, .int .u32 0, .int .u8 0, .int .u16 0, .int .i64 0]).cells (n * 7)).toList) : PRow w base v (List.replicate n p0) := by
  rw [pflat_zero] at h
  unfold PRow
  rw [List.length_replicate]
  exact h
def PPost (ps : List Pc) (w : World) (e : Ending) (w' : World) : Prop := ∃ v', e = .returned v' ∧ PRow w' w.heap.size v' ps ∧ Below w.heap.size w w'
def PcRel (xs : List Glyph) (w : World) (g k : Nat) (wr : World) : Prop := PRow wr w.heap.size (.slice (some ⟨g, 0, none⟩) xs.length xs.length) (fillPc xs k) ∧ Below w.heap.size w wr
theorem PcRel.next {xs : List Glyph} {w : World} {g k : Nat} {w1 w2 : World} (h : PcRel xs w g k w1) (hk : k < xs.length) (hr : PRow w2 w.heap.size (.slice (some ⟨g, 0, none⟩) xs.length xs.length) ((fillPc xs k).set k ⟨at_ xs k, k⟩)) (hg : w1.grownBy w2 (some g)) (hbg : w.heap.size ≤ g) : PcRel xs w g (k + 1) w2 := by
  refine ⟨?_, below_grown h.2 hg hbg h.2.size⟩
  rw [← fillPc_set hk]
  exact hr
set_option maxRecDepth 10000 in
set_option maxHeartbeats 2000000 in
theorem pieces_any (a : Option Addr) (n c : Nat) (xs : List Glyph) (w : World) (hl : Cells w a n xs) (h1 : 1 ≤ n) (h8 : n ≤ 80) : Calls Tryd.prog 70 #[.slice a n c] w (PPost (piecesP xs) w) := by
  obtain rfl := hl.1
  have HL := Lib.hid hl
  obtain ⟨bl, off, rfl, hbl, hcc⟩ := hl.2.2 (by omega)
  have HC := Lib.hid hcc
  clear hl hcc
  go_enter Tryd.func70, Tryd.ntmps70
  go_wp2_with (first
    | (at_make; refine wpList_make_full _ rfl _ _ 92 rfl w.heap.size 95 _ _ 7 Tryd.underlying92 pinfoE pzeroE (by kernel_rfl) .i64 .i64 _ _ xs.length rfl rfl rfl rfl (by rw [pbytes]; omega) (by unfold maxLen; omega) (Nat.le_refl _) ?_; intro w1 o1 g1; have R1 := Lib.hid (pmake_row o1); have B1 := Lib.hid (gbelow_none g1); clear o1 g1)
    | go_in)
  have HL0 : Hid (PcRel xs w w.heap.size 0 w1) := ⟨by rw [fillPc_zero]; exact R1.out, B1.out⟩
  clear R1
  go_loopw [10] (fun v wr => ∃ q : Nat, q ≤ xs.length ∧ v = .int .i64 q ∧ Hid (PcRel xs w w.heap.size q wr)) (fun v _ => xs.length - (intOf v).toNat)
  case atStart => exact ⟨0, by omega, rfl, HL0⟩
  case round =>
    obtain ⟨q, hq1, rfl, HR⟩ := hrel
    clear HL0
    by_cases hq : q < xs.length
    · have hi0 : (0 : Int) ≤ (q : Int) := by omega
      have hi1 : (q : Int) < (xs.length : Int) := by omega
      obtain ⟨x, hx⟩ : ∃ x, at_ xs q = x := ⟨_, rfl⟩
      have HG : Hid (GAt wr bl (off + q * 6) x) := by rw [← hx]; exact (HC.out q hq).same fun p hp => HR.out.2.cell (by omega)
      have HX := Lib.hid hx
      have HQ : Hid (q < xs.length) := hq
      obtain ⟨e0, e1, e2, e3, e4, e5⟩ := HG.out
      clear hx
      go_wp2_with (first
        | (refine pstore_list rfl _ _ rfl (d := ⟨x, (q : Int)⟩) rfl rfl HR.out.1 hq ?_; intro wy r5 g5; have HY' : Hid (PcRel xs w w.heap.size (q + 1) wy) := HR.out.next HQ.out (by rw [HX.out]; exact r5) g5 (Nat.le_refl _); clear r5 g5 e0 e1 e2 e3 e4 e5 HR)
        | go_in)
      go_roundw
      case rel => exact ⟨q + 1, HQ.out, by go_num, HY'⟩
      case measure => have := HQ.out; simp [intOf]; omega
    · obtain rfl : q = xs.length := by omega
      clear hq
      go_wp2_with fail
      go_ret
      exact ⟨_, rfl, by rw [← fillPc_all]; exact HR.out.1, HR.out.2⟩
end Go.Proofs.YtlhcehealjdbdaaDoor
/- Where pieces stood: bounds; what the document's loops leave. -/
namespace Go.Proofs.YtlhcehealjdbdaaDoor
open Go.RowKit
set_option linter.unusedSimpArgs false
set_option linter.unusedVariables false

theorem bound_pieces {xs : List Glyph} (h8 : xs.length ≤ 80) : ∀ i, i < xs.length → -100 ≤ (pat (piecesP xs) i).s ∧ (pat (piecesP xs) i).s ≤ 1000 := fun i hi => by
  rw [pieces_pt hi]
  simp only
  omega
theorem bound_set {xs : List Glyph} {ps : List Pc} {k : Nat} {d : Pc} (hl : ps.length = xs.length) (hk : k < xs.length) (hd : -100 ≤ d.s ∧ d.s ≤ 1000) (h : ∀ i, i < xs.length → -100 ≤ (pat (ps) i).s ∧ (pat (ps) i).s ≤ 1000) : ∀ i, i < xs.length → -100 ≤ (pat (ps.set k d) i).s ∧ (pat (ps.set k d) i).s ≤ 1000 := fun i hi => by
  rw [pset (by omega)]
  split
  · exact hd
  · exact h i hi
theorem bound_erase {xs : List Glyph} {s t b : Int} {k : Nat} (h8 : xs.length ≤ 80) : ∀ i, i < xs.length → -100 ≤ (pat (erasePk xs s t b k) i).s ∧ (pat (erasePk xs s t b k) i).s ≤ 1000 := fun i hi => by
  rw [erasePk_pt hi]
  split
  · show -100 ≤ (-10 : Int) ∧ (-10 : Int) ≤ 1000
    omega
  · simp only
    omega
theorem erase_in {xs : List Glyph} {s t b : Int} {k : Nat} (hk : k < xs.length) (h : s ≤ k ∧ (k : Int) < t) : (erasePk xs s t b k).set k ⟨blank b, -10⟩ = erasePk xs s t b (k + 1) := by
  refine pext (by rw [List.length_set, erasePk_len, erasePk_len]) fun j hj => ?_
  rw [List.length_set, erasePk_len] at hj
  rw [pset (by rw [erasePk_len]; exact hk), erasePk_pt hj, erasePk_pt hj]
  by_cases h1 : j = k
  · rw [if_pos h1, if_pos (by omega)]
  · rw [if_neg h1]
    by_cases h2 : j < k ∧ s ≤ j ∧ (j : Int) < t
    · rw [if_pos h2, if_pos (by omega)]
    · rw [if_neg h2, if_neg (by omega)]
theorem erase_out {xs : List Glyph} {s t b : Int} {k : Nat} (h : ¬ (s ≤ k ∧ (k : Int) < t)) : erasePk xs s t b (k + 1) = erasePk xs s t b k := by
  unfold erasePk
  refine List.map_congr_left fun i _ => ?_
  by_cases h2 : i < k ∧ s ≤ i ∧ (i : Int) < t
  · rw [if_pos h2, if_pos (by omega)]
  · rw [if_neg h2, if_neg (fun q => h2 (by
      rcases (by omega : i < k ∨ i = k) with e | e
      · exact ⟨e, q.2⟩
      · subst e
        exact absurd q.2 h))]
theorem take_one {ps : List Pc} {k : Nat} (h : k < ps.length) : ps.take k ++ [pat ps k] = ps.take (k + 1) := by
  rw [List.take_add_one, List.getElem?_eq_getElem h]
  unfold pat
  rw [List.getD_eq_getElem?_getD, List.getElem?_eq_getElem h]
  rfl
theorem drop_pat {ps : List Pc} {k i : Nat} : pat (ps.drop k) i = pat ps (k + i) := by
  unfold pat
  rw [List.getD_eq_getElem?_getD, List.getElem?_drop, ← List.getD_eq_getElem?_getD]
theorem rep_one {k : Nat} {p : Pc} : List.replicate k p ++ [p] = List.replicate (k + 1) p := (List.replicate_succ' ..).symm
/-- What Insert's loops have built: behind the copy and q blanks; behind the blanks and q cells of the rest. -/
def insA (xs : List Glyph) (k : Nat) (b : Int) (q : Nat) : List Pc := (piecesP xs).take k ++ List.replicate q (newPc b)
def insB (xs : List Glyph) (k : Nat) (b : Int) (j q : Nat) : List Pc := insA xs k b j ++ ((piecesP xs).drop k).take q
theorem insA_len {xs : List Glyph} {k : Nat} {b : Int} {q : Nat} (h : k ≤ xs.length) : (insA xs k b q).length = k + q := by
  unfold insA
  rw [List.length_append, List.length_take, pieces_len, List.length_replicate]
  omega
theorem insB_len {xs : List Glyph} {k : Nat} {b : Int} {j q : Nat} (h : k + q ≤ xs.length) : (insB xs k b j q).length = k + j + q := by
  unfold insB
  rw [List.length_append, insA_len (by omega), List.length_take, List.length_drop, pieces_len]
  omega
theorem insA_zero {xs : List Glyph} {k : Nat} {b : Int} : (piecesP xs).take k = insA xs k b 0 := by unfold insA; simp
theorem insA_next {xs : List Glyph} {k : Nat} {b : Int} {q : Nat} : insA xs k b q ++ [newPc b] = insA xs k b (q + 1) := by
  unfold insA
  rw [List.append_assoc, rep_one]
theorem insB_zero {xs : List Glyph} {k : Nat} {b : Int} {j : Nat} : insA xs k b j = insB xs k b j 0 := by unfold insB; simp
theorem insB_next {xs : List Glyph} {k : Nat} {b : Int} {j q : Nat} (h : k + q < xs.length) : insB xs k b j q ++ [pat (piecesP xs) (k + q)] = insB xs k b j (q + 1) := by
  unfold insB
  rw [List.append_assoc, ← drop_pat, take_one (by rw [List.length_drop, pieces_len]; omega)]
theorem insB_all {xs : List Glyph} {k j : Nat} {b x n : Int} (hx : x = k) (hj : min n (xs.length - k) = j) : insB xs k b j (xs.length - k - j) = insertPc xs x n b := by
  subst hx
  unfold insB insA insertPc
  rw [hj, Int.toNat_natCast, Int.toNat_natCast]
/-- What Delete's loops have built: behind q places looked at; behind the rest and q blanks. -/
def delA (xs : List Glyph) (k j q : Nat) : List Pc := (piecesP xs).take k ++ ((piecesP xs).drop (k + j)).take (q - j)
def delB (xs : List Glyph) (k : Nat) (b : Int) (j q : Nat) : List Pc := delA xs k j (xs.length - k) ++ List.replicate q (newPc b)
theorem delA_len {xs : List Glyph} {k j q : Nat} (h : k + q ≤ xs.length) : (delA xs k j q).length = k + (q - j) := by
  unfold delA
  rw [List.length_append, List.length_take, List.length_take, List.length_drop, pieces_len]
  omega
theorem delB_len {xs : List Glyph} {k j q : Nat} {b : Int} (h : k + j ≤ xs.length) : (delB xs k b j q).length = xs.length - j + q := by
  unfold delB
  rw [List.length_append, delA_len (by omega), List.length_replicate]
  omega
theorem delA_zero {xs : List Glyph} {k j : Nat} : (piecesP xs).take k = delA xs k j 0 := by unfold delA; simp
theorem delA_skip {xs : List Glyph} {k j q : Nat} (h : q < j) : delA xs k j (q + 1) = delA xs k j q := by
  unfold delA
  rw [show q + 1 - j = 0 from by omega, show q - j = 0 from by omega]
theorem delA_next {xs : List Glyph} {k j q : Nat} (h : k + q < xs.length) (hj : j ≤ q) : delA xs k j q ++ [pat (piecesP xs) (k + q)] = delA xs k j (q + 1) := by
  unfold delA
  rw [List.append_assoc, show k + q = k + j + (q - j) from by omega, ← drop_pat, take_one (by rw [List.length_drop, pieces_len]; omega), show q - j + 1 = q + 1 - j from by omega]
theorem delB_zero {xs : List Glyph} {k j : Nat} {b : Int} : delA xs k j (xs.length - k) = delB xs k b j 0 := by unfold delB; simp
theorem delB_next {xs : List Glyph} {k j q : Nat} {b : Int} : delB xs k b j q ++ [newPc b] = delB xs k b j (q + 1) := by
  unfold delB
  rw [List.append_assoc, rep_one]
theorem delB_all {xs : List Glyph} {k j : Nat} {b x n : Int} (hx : x = k) (hj : min n (xs.length - k) = j) : delB xs k b j j = deletePc xs x n b := by
  subst hx
  unfold delB delA deletePc
  rw [hj, Int.toNat_natCast, Int.toNat_natCast, List.take_of_length_le (l := (piecesP xs).drop (k + j)) (by rw [List.length_drop, pieces_len]; omega)]
theorem bound_new {b : Int} : -100 ≤ (newPc b).s ∧ (newPc b).s ≤ 1000 := by
  show -100 ≤ (-10 : Int) ∧ (-10 : Int) ≤ 1000
  omega
theorem bound_insert {xs : List Glyph} {x n b : Int} {k j : Nat} (h8 : xs.length ≤ 80) (hx : x = k) (hj : min n (xs.length - k) = j) (hk : k < xs.length) (hkj : k + j ≤ xs.length) : ∀ i, i < xs.length → -100 ≤ (pat (insertPc xs x n b) i).s ∧ (pat (insertPc xs x n b) i).s ≤ 1000 := fun i hi => by
  rw [(insert_pcs hx hj hk hkj).2 i hi]
  split
  · simp only
    omega
  · split
    · exact bound_new
    · simp only
      omega
theorem bound_delete {xs : List Glyph} {x n b : Int} {k j : Nat} (h8 : xs.length ≤ 80) (hx : x = k) (hj : min n (xs.length - k) = j) (hk : k < xs.length) (hkj : k + j ≤ xs.length) : ∀ i, i < xs.length → -100 ≤ (pat (deletePc xs x n b) i).s ∧ (pat (deletePc xs x n b) i).s ≤ 1000 := fun i hi => by
  rw [(delete_pcs hx hj hk hkj).2 i hi]
  split
  · simp only
    omega
  · split
    · simp only
      omega
    · exact bound_new
/-- A row of pieces under way, the row as it stood, and the pen, behind what was called. -/
def PRel (w : World) (lo sb g pc : Nat) (xs : List Glyph) (f b d l : Int) (ps : List Pc) (vo : Value) (wr : World) : Prop :=
  PRow wr lo vo ps ∧ PRow wr sb (.slice (some ⟨g, 0, none⟩) xs.length pc) (piecesP xs) ∧ Own wr w.heap.size 26 #[.int .u32 f, .int .u32 b, .int .u8 d, .int .u16 l] ∧ Below w.heap.size w wr ∧ lo ≤ wr.heap.size
section
variable {w wr w2 : World} {lo sb g pc : Nat} {xs : List Glyph} {f b d l : Int} {ps : List Pc} {vo : Value}
theorem PRel.below (h : PRel w lo sb g pc xs f b d l ps vo wr) (k : Below wr.heap.size wr w2) (hw : w.heap.size < lo) : PRel w lo sb g pc xs f b d l ps vo w2 :=
  ⟨h.1.below k, h.2.1.below k, h.2.2.1.below k (Nat.lt_of_lt_of_le hw h.2.2.2.2), h.2.2.2.1.trans (k.mono h.2.2.2.1.size), Nat.le_trans h.2.2.2.2 k.size⟩
theorem PRel.app {qs : List Pc} {v : Value} (h : PRel w lo sb g pc xs f b d l ps vo wr) (hr : PRow w2 lo v qs) (k : Below lo wr w2) (hw : w.heap.size < lo) (hg : g < lo) : PRel w lo sb g pc xs f b d l qs v w2 :=
  ⟨hr, h.2.1.keep k hg, h.2.2.1.below k hw, h.2.2.2.1.trans (k.mono (Nat.le_of_lt hw)), Nat.le_trans h.2.2.2.2 k.size⟩
theorem PRel.alloc (h : PRel w lo sb g pc xs f b d l ps vo wr) (hw : w.heap.size < lo) (o : Obj) : PRel w lo sb g pc xs f b d l ps vo (wr.alloc o) := h.below ((Below.refl _ _).alloc (Nat.le_refl _) o) hw
end
end Go.Proofs.YtlhcehealjdbdaaDoor
