/- Part 13 of the texts that GridPlays stands on, one behind the other. -/
import Derived.Test.YtlhcehealjdbdaaDoorP9
import Derived.Test.YtlhcehealjdbdaaDoorP10
import Derived.Test.YtlhcehealjdbdaaDoorP11
import Derived.Test.YtlhcehealjdbdaaDoorP12
import Derived.Deep.DeepCutAuto
/- A grid in which a row was turned: the document's. -/
namespace Go.Proofs.YtlhcehealjdbdaaDoor
open Go.RowKit
set_option linter.unusedSimpArgs false
set_option linter.unusedVariables false
attribute [local go_sem] alloc_drewN setCell_drewN


theorem rows_flat_take {C R : Nat} {ys : List Glyph} (hl : ys.length = C * R) : ∀ q, q ≤ R → (rowsL C q ys).flatten = ys.take (q * C)
  | 0, _ => by simp [rowsL]
  | q + 1, h => by
    have ih := rows_flat_take hl q (by omega)
    have e : rowsL C (q + 1) ys = rowsL C q ys ++ [rowOf C q ys] := by simp [rowsL, List.range_succ]
    rw [e, List.flatten_append, ih, Nat.add_mul, Nat.one_mul, List.take_add]
    simp [rowOf]
theorem rows_flat {C R : Nat} {ys : List Glyph} (hl : ys.length = C * R) : (rowsL C R ys).flatten = ys := by
  rw [rows_flat_take hl R (Nat.le_refl _), List.take_of_length_le (by rw [hl, Nat.mul_comm]; exact Nat.le_refl _)]
theorem rows_set {C R Y : Nat} {xs l : List Glyph} (hl : xs.length = C * R) (hY : Y < R) (hn : l.length = C) : (rowsL C R xs).set Y l = rowsL C R (setRow xs C Y l) := by
  refine List.ext_getElem (by simp [rowsL]) fun i h1 h2 => ?_
  have hi : i < R := by simpa [rowsL] using h2
  rw [List.getElem_set]
  simp only [rowsL, List.getElem_map, List.getElem_range]
  rw [rowOf_set hl hY hi hn]
  by_cases e : Y = i
  · subst e
    simp
  · rw [if_neg e, if_neg (fun h => e h.symm)]
theorem rset_op {w : World} {o : Oper} {a : Act} {Q : Exit → Act → World → Prop} {K : Act → World → Prop} (p v : Operand) (ho : o.op = .store 29 p v) {base g n c i : Nat} {L : List (List Glyph)} {l : List Glyph} {ua : Option Addr} {un uc : Nat}
    (hp : a.eval p = .pointer (some ⟨g, i, none⟩)) (hv : a.eval v = .slice ua un uc) (hr : RowsAt w base (.slice (some ⟨g, 0, none⟩) n c) L) (hi : i < n) (hrow : CRow w 0 (.slice ua un uc) l)
    (h : ∀ w', RowsAt w' base (.slice (some ⟨g, 0, none⟩) n c) (L.set i l) → w.grownBy w' (some g) → K (a.put o.dst undef) w') : Oper.wp Tryd.prog o a w K Q := by
  obtain ⟨w', hrun, h1, h2⟩ := rset_run hr hi hrow
  unfold Oper.wp execOp
  simp only [ho, hp, hv, Sem.run_bind, hrun, Result.andThen_ok]
  simp only [Sem.run_pure, Oper.upon]
  exact h w' h1 h2
theorem rw_own {w : World} {b g n c t k : Nat} {L : List (List Glyph)} {cs : Array Value} (h : RowsAt w b (.slice (some ⟨g, 0, none⟩) n c) L) (ho : Own w k t cs) (hne : 29 ≠ t) : some k ≠ some g := by
  obtain ⟨vs, _, k2, _⟩ := h
  intro e
  exact (apart_own k2 ho hne).elim (fun q => by cases q) (fun q => q e.symm)
def DoRel (w : World) (base gl lc R : Nat) (f b d l : Int) (L : List (List Glyph)) (wr : World) : Prop :=
  RowsAt wr base (.slice (some ⟨gl, 0, none⟩) R lc) L ∧ Own wr (w.heap.size + 1) 26 #[.int .u32 f, .int .u32 b, .int .u8 d, .int .u16 l] ∧ Own wr (w.heap.size + 2) 49 #[.int .i64 0, .int .i64 0, .slice none 0 0] ∧ Below w.heap.size w wr
theorem DoRel.below {w w1 w2 : World} {base gl lc R : Nat} {f b d l : Int} {L : List (List Glyph)} (h : DoRel w base gl lc R f b d l L w1) (k : Below w1.heap.size w1 w2) : DoRel w base gl lc R f b d l L w2 :=
  ⟨h.1.below k, h.2.1.below k h.2.1.lt, h.2.2.1.below k h.2.2.1.lt, h.2.2.2.trans (k.mono h.2.2.2.size)⟩
set_option maxRecDepth 10000 in
set_option maxHeartbeats 4000000 in
theorem ref_do0_any (c r x y m rr f b d l : Int) (a : Option Addr) (n cp : Nat) (xs : List Glyph) (w : World) (hl : Cells w a n xs) (hcp : n ≤ cp) :
    Calls Tryd.prog 64 #[.agg #[.int .i64 c, .int .i64 r, .slice a n cp], .int .i64 0, .int .i64 x, .int .i64 y, .int .i64 m, .int .i32 rr, .agg #[.int .u32 f, .int .u32 b, .int .u8 d, .int .u16 l]] w (GG (okI c r xs f b c) (okI c r xs f b r) (turnP c r xs y f b (fun l' => putP l' x rr f b d l)) w) := by
  obtain rfl := hl.1
  have HL := Lib.hid hl
  clear hl
  have B0 : Hid (Below w.heap.size w (((w.alloc (.cells #[.int .i64 c, .int .i64 r, .slice a xs.length cp] 49)).alloc (.cells #[.int .u32 f, .int .u32 b, .int .u8 d, .int .u16 l] 26)).alloc (.cells #[.int .i64 0, .int .i64 0, .slice none 0 0] 49))) := (((Below.refl _ _).alloc (Nat.le_refl _) _).alloc (by simp) _).alloc (by simp; omega) _
  have G0 : Hid (Own (((w.alloc (.cells #[.int .i64 c, .int .i64 r, .slice a xs.length cp] 49)).alloc (.cells #[.int .u32 f, .int .u32 b, .int .u8 d, .int .u16 l] 26)).alloc (.cells #[.int .i64 0, .int .i64 0, .slice none 0 0] 49)) w.heap.size 49 #[.int .i64 c, .int .i64 r, .slice a xs.length cp]) := ((Own.new w 49 _).alloc _).alloc _
  have P0' : Own (((w.alloc (.cells #[.int .i64 c, .int .i64 r, .slice a xs.length cp] 49)).alloc (.cells #[.int .u32 f, .int .u32 b, .int .u8 d, .int .u16 l] 26)).alloc (.cells #[.int .i64 0, .int .i64 0, .slice none 0 0] 49)) (w.heap.size + 1) 26 #[.int .u32 f, .int .u32 b, .int .u8 d, .int .u16 l] := by
    have h := (Own.new (w.alloc (.cells #[.int .i64 c, .int .i64 r, .slice a xs.length cp] 49)) 26 #[.int .u32 f, .int .u32 b, .int .u8 d, .int .u16 l]).alloc (.cells #[.int .i64 0, .int .i64 0, .slice none 0 0] 49)
    simpa using h
  have A0' : Own (((w.alloc (.cells #[.int .i64 c, .int .i64 r, .slice a xs.length cp] 49)).alloc (.cells #[.int .u32 f, .int .u32 b, .int .u8 d, .int .u16 l] 26)).alloc (.cells #[.int .i64 0, .int .i64 0, .slice none 0 0] 49)) (w.heap.size + 2) 49 #[.int .i64 0, .int .i64 0, .slice none 0 0] := by
    have h := Own.new ((w.alloc (.cells #[.int .i64 c, .int .i64 r, .slice a xs.length cp] 49)).alloc (.cells #[.int .u32 f, .int .u32 b, .int .u8 d, .int .u16 l] 26)) 49 #[.int .i64 0, .int .i64 0, .slice none 0 0]
    simpa using h
  have P0 := Lib.hid P0'
  have A0 := Lib.hid A0'
  have hz0 : w.heap.size + 3 ≤ (((w.alloc (.cells #[.int .i64 c, .int .i64 r, .slice a xs.length cp] 49)).alloc (.cells #[.int .u32 f, .int .u32 b, .int .u8 d, .int .u16 l] 26)).alloc (.cells #[.int .i64 0, .int .i64 0, .slice none 0 0] 49)).heap.size := by simp
  clear P0' A0'
  have g0 := Own.cell G0.out 0
  have g1 := Own.cell G0.out 1
  have g2 := Own.cell G0.out 2
  simp only [List.getElem?_toArray, List.getElem?_cons_zero, List.getElem?_cons_succ] at g0 g1 g2
  go_enter Tryd.func64, Tryd.ntmps64
  go_wp2_with fail
  generalize ((w.alloc (.cells #[.int .i64 c, .int .i64 r, .slice a xs.length cp] 49)).alloc (.cells #[.int .u32 f, .int .u32 b, .int .u8 d, .int .u16 l] 26)).alloc (.cells #[.int .i64 0, .int .i64 0, .slice none 0 0] 49) = w0 at B0 G0 P0 A0 hz0 g0 g1 g2 ⊢
  refine (ref_rows_any c r a xs.length cp xs w0 (HL.out.below B0.out) hcp).mono ?_
  intro e w1 hp
  unfold RowsPost at hp
  obtain ⟨mb, hmb⟩ : ∃ mb, gridMay c r xs = mb := ⟨_, rfl⟩
  cases mb with
  | false =>
    rw [if_neg (by rw [hmb]; decide)] at hp
    obtain ⟨rfl, b1⟩ := hp
    have B1 : Hid (Below w.heap.size w w1) := B0.out.trans (b1.mono B0.out.size)
    have G1 := Lib.hid (G0.out.below b1 (by omega))
    have P1 := Lib.hid (P0.out.below b1 (by omega))
    have A1 := Lib.hid (A0.out.below b1 (by omega))
    have hz1 : w.heap.size + 3 ≤ w1.heap.size := Nat.le_trans hz0 b1.size
    have HF : Hid (okI c r xs f b c = 0 ∧ okI c r xs f b r = 0 ∧ turnP c r xs y f b (fun l' => putP l' x rr f b d l) = []) := by unfold okI turnP; rw [hmb, Bool.false_and]; exact ⟨rfl, rfl, rfl⟩
    clear b1 g0 g1 g2 hmb
    have hA := A1.out
    go_wp2_with (first
      | (refine gvstore_list rfl _ _ rfl (c := 0) (r := 0) (sa := none) (sn := 0) (sc := 0) rfl rfl hA ?_; intro w2 o2 k2; have O2 := Lib.hid o2; have B2 : Hid (Below w.heap.size w w2) := below_grown B1.out k2 (by omega) B1.out.size; clear o2 k2 hA)
      | go_in)
    have g0 := Own.cell O2.out 0
    have g1 := Own.cell O2.out 1
    have g2 := Own.cell O2.out 2
    simp only [List.getElem?_toArray, List.getElem?_cons_zero, List.getElem?_cons_succ] at g0 g1 g2
    (try simp only [Exit.inBlock, Exit.then])
    refine bodyPost_ret (v := .agg #[.int .i64 0, .int .i64 0, .slice none 0 0]) (by simp [results, Tryd.results64, go_sem, g0, g1, g2]) rfl ?_
    obtain ⟨h1, h2, h3⟩ := HF.out
    rw [h1, h2, h3]
    exact ⟨_, rfl, CRow.nil _ _, B2.out⟩
  | true =>
    rw [if_pos hmb] at hp
    obtain ⟨v1, rfl, r1, b1⟩ := hp
    have B1 : Hid (Below w.heap.size w w1) := B0.out.trans (b1.mono B0.out.size)
    have G1 := Lib.hid (G0.out.below b1 (by omega))
    have P1 := Lib.hid (P0.out.below b1 (by omega))
    have A1 := Lib.hid (A0.out.below b1 (by omega))
    have hz1 : w.heap.size + 3 ≤ w1.heap.size := Nat.le_trans hz0 b1.size
    obtain ⟨pb, hpb⟩ : ∃ pb, penMay f b = pb := ⟨_, rfl⟩
    have HPB := Lib.hid hpb
    have HMB := Lib.hid hmb
    obtain ⟨C, R, rfl, rfl, hgo⟩ := gmay_iff.1 hmb
    have HGO := Lib.hid hgo
    obtain ⟨o1, o2, o3, o4, o5, o6⟩ := hgo
    rw [Int.toNat_natCast, Int.toNat_natCast] at r1
    obtain ⟨la0, lc, rfl⟩ := rows_form r1
    rw [rowsL_len] at r1 ⊢
    obtain ⟨gl, rfl, _, _, hgl, _⟩ := rows_addr r1 (by omega)
    have Lr1 := Lib.hid r1
    have HO5 := Lib.hid o5
    clear b1 r1 hmb hpb g0 g1 g2 o5 o6
    have e0 := Own.cell P1.out 0
    have e1 := Own.cell P1.out 1
    have e2 := Own.cell P1.out 2
    have e3 := Own.cell P1.out 3
    simp only [List.getElem?_toArray, List.getElem?_cons_zero, List.getElem?_cons_succ] at e0 e1 e2 e3
    go_wp2_with fail
    refine (RVal.as (ref_pen_any f b d l _) (congrArg Value.bool HPB.out)).mono ?_
    rintro e w2 ⟨rfl, b2⟩
    have B2 : Hid (Below w.heap.size w w2) := B1.out.trans (b2.mono B1.out.size)
    have G2 := Lib.hid (G1.out.below b2 (by omega))
    have P2 := Lib.hid (P1.out.below b2 (by omega))
    have A2 := Lib.hid (A1.out.below b2 (by omega))
    have hz2 : w.heap.size + 3 ≤ w2.heap.size := Nat.le_trans hz1 b2.size
    have L2 : Hid (DoRel w w0.heap.size gl lc R f b d l (rowsL C R xs) w2) := ⟨Lr1.out.below b2, P2.out, A2.out, B2.out⟩
    have hgl2' : gl < w2.heap.size := Nat.lt_of_lt_of_le hgl b2.size
    clear b2 e0 e1 e2 e3
    cases pb with
    | false =>
      have HF : Hid (okI C R xs f b C = 0 ∧ okI C R xs f b R = 0 ∧ turnP C R xs y f b (fun l' => putP l' x rr f b d l) = []) := by unfold okI turnP; rw [HPB.out, Bool.and_false]; exact ⟨rfl, rfl, rfl⟩
      have hA := A2.out
      go_wp2_with (first
        | (refine gvstore_list rfl _ _ rfl (c := 0) (r := 0) (sa := none) (sn := 0) (sc := 0) rfl rfl hA ?_; intro w3 o3 k3; have O3 := Lib.hid o3; have B3 : Hid (Below w.heap.size w w3) := below_grown B2.out k3 (by omega) B2.out.size; clear o3 k3 hA)
        | go_in)
      have g0 := Own.cell O3.out 0
      have g1 := Own.cell O3.out 1
      have g2 := Own.cell O3.out 2
      simp only [List.getElem?_toArray, List.getElem?_cons_zero, List.getElem?_cons_succ] at g0 g1 g2
      (try simp only [Exit.inBlock, Exit.then])
      refine bodyPost_ret (v := .agg #[.int .i64 0, .int .i64 0, .slice none 0 0]) (by simp [results, Tryd.results64, go_sem, g0, g1, g2]) rfl ?_
      obtain ⟨h1, h2, h3⟩ := HF.out
      rw [h1, h2, h3]
      exact ⟨_, rfl, CRow.nil _ _, B3.out⟩
    | true =>
      have hok : (gridMay C R xs && penMay f b) = true := by rw [HMB.out, HPB.out]; rfl
      have HOI : Hid (okI C R xs f b C = C ∧ okI C R xs f b R = R) := by unfold okI; rw [hok]; exact ⟨rfl, rfl⟩
      have HTP : Hid (turnP C R xs y f b (fun l' => putP l' x rr f b d l) = if 0 ≤ y ∧ y < (R : Int) then setRow xs C y.toNat (putP (rowOf C y.toNat xs) x rr f b d l) else xs) := by unfold turnP; rw [hok, if_pos rfl, Int.toNat_natCast]; rfl
      clear hok
      obtain ⟨t, htt⟩ : ∃ t, decide (0 ≤ y ∧ y < (R : Int)) = t := ⟨_, rfl⟩
      have HTT := Lib.hid htt
      clear htt
      go_upto_region 4 with fail
      go_cut [37] (fun v wc => v = .bool t ∧ w2 = wc)
      case first =>
        have htt := HTT.out
        cases c1 : decide (0 ≤ y) with
        | false =>
          have e1 := of_decide_eq_false c1
          obtain rfl : t = false := by rw [← htt]; exact decide_eq_false (fun k => e1 k.1)
          clear htt e1
          go_wp2_with fail
          all_goals (go_meet; exact ⟨rfl, rfl⟩)
        | true =>
          have e1 := of_decide_eq_true c1
          cases c2 : decide (y < (R : Int)) with
          | false =>
            have e2 := of_decide_eq_false c2
            obtain rfl : t = false := by rw [← htt]; exact decide_eq_false (fun k => e2 k.2)
            clear htt e1 e2
            go_wp2_with fail
            all_goals (go_meet; exact ⟨rfl, rfl⟩)
          | true =>
            have e2 := of_decide_eq_true c2
            obtain rfl : t = true := by rw [← htt]; exact decide_eq_true ⟨e1, e2⟩
            clear htt e1 e2
            go_wp2_with fail
            all_goals (go_meet; exact ⟨rfl, rfl⟩)
      case rest =>
        obtain ⟨rfl, rfl⟩ := hcut
        cases t with
        | false =>
          have htp := HTP.out
          rw [if_neg (of_decide_eq_false HTT.out)] at htp
          have HTQ := Lib.hid htp
          have HCL : Hid (∀ i, i < R → ((rowsL C R xs).getD i []).length = C) := fun i hi => by rw [rowsL_at hi]; exact row_len HO5.out hi
          clear htp
          go_wp2_with fail
          refine (of_any C R gl lc w0.heap.size (rowsL C R xs) _ L2.out.1 o3 o4 o1 o2 HCL.out).mono ?_
          rintro e w10 ⟨v10, rfl, r10, b10⟩
          obtain ⟨va, vc, rfl, _⟩ := r10.cells
          have hwz : w.heap.size ≤ _ := L2.out.2.2.2.size
          have R10 := Lib.hid (r10.up hwz)
          have B10 : Hid (Below w.heap.size w w10) := L2.out.2.2.2.trans (b10.mono hwz)
          have A10 := Lib.hid (L2.out.2.2.1.below b10 L2.out.2.2.1.lt)
          have N10 : Hid (w.heap.size + 2 < w10.heap.size) := A10.out.lt
          have RR10 := Lib.hid r10
          have ha10 := L2.out.2.2.1.lt
          clear r10 b10 hwz
          have hA := A10.out
          go_wp2_with (first
            | (refine gvstore_list rfl _ _ rfl (c := C) (r := R) (sa := va) (sc := vc) rfl rfl hA ?_; intro w11 o11 k11; have O11 := Lib.hid o11; have B11 : Hid (Below w.heap.size w w11) := below_grown B10.out k11 (by omega) B10.out.size; have R11 := Lib.hid ((crow_other RR10.out k11 ha10).up L2.out.2.2.2.size); clear o11 k11 hA)
            | go_in)
          (try clear g0 g1 g2)
          have g0 := Own.cell O11.out 0
          have g1 := Own.cell O11.out 1
          have g2 := Own.cell O11.out 2
          simp only [List.getElem?_toArray, List.getElem?_cons_zero, List.getElem?_cons_succ] at g0 g1 g2
          (try simp only [Exit.inBlock, Exit.then])
          refine bodyPost_ret (v := .agg #[.int .i64 C, .int .i64 R, .slice va (rowsL C R xs).flatten.length vc]) (by simp [results, Tryd.results64, go_sem, g0, g1, g2]) rfl ?_
          rw [HOI.out.1, HOI.out.2, HTQ.out]
          have hfl := rows_flat HO5.out
          have hr11 := R11.out
          refine ⟨_, rfl, ?_, B11.out⟩
          rw [hfl] at hr11 ⊢
          exact hr11
        | true =>
          have hcond := of_decide_eq_true HTT.out
          obtain ⟨Y, rfl⟩ : ∃ Y : Nat, y = Y := ⟨y.toNat, by omega⟩
          have hYR : Y < R := by omega
          have htp := HTP.out
          rw [if_pos hcond, Int.toNat_natCast] at htp
          have HTQ := Lib.hid htp
          have hrok := HGO.out.2.2.2.2.2 Y hYR
          have hmm : (rowMay (rowOf C Y xs) && penMay f b) = true := by rw [row_yes hrok, HPB.out]; rfl
          have HRL : Hid ((rowOf C Y xs).length = C) := row_len HO5.out hYR
          have hql : (putP (rowOf C Y xs) x rr f b d l).length = C := (put_len hmm).trans HRL.out
          have HQL := Lib.hid hql
          have HCL : Hid (∀ i, i < R → (((rowsL C R xs).set Y (putW (rowOf C Y xs) x rr f b d l)).getD i []).length = C) := fun i hi => by
            rw [← put_want, rows_set HO5.out hYR hql, rowsL_at hi]
            exact row_len (setRow_len HO5.out hYR hql) hi
          have HFL : Hid (((rowsL C R xs).set Y (putW (rowOf C Y xs) x rr f b d l)).flatten = setRow xs C Y (putP (rowOf C Y xs) x rr f b d l)) := by
            have k : ((rowsL C R xs).set Y (putW (rowOf C Y xs) x rr f b d l)).flatten = setRow xs C Y (putP (rowOf C Y xs) x rr f b d l) := by
              rw [← put_want, rows_set HO5.out hYR hql]
              exact rows_flat (setRow_len HO5.out hYR hql)
            exact k
          obtain ⟨la', lb, hcw, hrw, _⟩ := rows_at L2.out.1 hYR
          rw [rowsL_at hYR, HRL.out] at hcw hrw
          have hlc := cells_of hrw
          obtain ⟨_, _, hla, _, _⟩ := hlc.2.2 (by omega)
          obtain ⟨la, hla2⟩ : ∃ la, la' = some la := ⟨_, hla⟩
          subst hla2
          have L2' : Hid (DoRel w w0.heap.size gl lc R f b d l (rowsL C R xs) w2.drew) := ⟨L2.out.1, L2.out.2.1, L2.out.2.2.1, below_drewN L2.out.2.2.2 1⟩
          have S2 : Hid (w2.drew.cell? ⟨gl, Y, none⟩ = some (.slice (some la) C lb) ∧ (w2.drew.cell? ⟨w.heap.size + 1, 0, none⟩ = some (.int .u32 f) ∧ w2.drew.cell? ⟨w.heap.size + 1, 1, none⟩ = some (.int .u32 b) ∧ w2.drew.cell? ⟨w.heap.size + 1, 2, none⟩ = some (.int .u8 d) ∧ w2.drew.cell? ⟨w.heap.size + 1, 3, none⟩ = some (.int .u16 l))) := ⟨hcw, ⟨Own.cell L2'.out.2.1 0, Own.cell L2'.out.2.1 1, Own.cell L2'.out.2.1 2, Own.cell L2'.out.2.1 3⟩⟩
          have LR : Hid (Cells w2.drew (some la) C (rowOf C Y xs)) := hlc
          have hgl2 : gl < w2.drew.heap.size := hgl2'
          have hYi0 : (0 : Int) ≤ (Y : Int) := by omega
          have hYi1 : (Y : Int) < (R : Int) := by omega
          clear hcond htp hrok hmm hql hcw hrw hlc hla
          go_wp2_with fail
          refine wp_region_bits_at (S := fun w' => w'.cell? ⟨gl, Y, none⟩ = some (.slice (some la) C lb) ∧ (w'.cell? ⟨w.heap.size + 1, 0, none⟩ = some (.int .u32 f) ∧ w'.cell? ⟨w.heap.size + 1, 1, none⟩ = some (.int .u32 b) ∧ w'.cell? ⟨w.heap.size + 1, 2, none⟩ = some (.int .u8 d) ∧ w'.cell? ⟨w.heap.size + 1, 3, none⟩ = some (.int .u16 l))) [(0, true), (1, true), (2, true), (3, true), (4, true), (5, true), (6, true), (7, true), (8, true), (9, false), (10, true), (11, false)] [11] (by kernel_rfl) (by kernel_rfl) (fun c a d v w h => by cases d <;> exact h) S2.out ?_
          simp only [bits_, bitOf, List.getElem?_cons_zero, List.getElem?_cons_succ, List.contains_nil, List.contains_cons, Nat.reduceBEq, Bool.or_false]
          repeat (first | (refine bits_take (v := ?_) (by rfl) ?_ ?_; rotate_left; (· intro w' hS; obtain ⟨s0, s3, s4, s5, s6⟩ := hS; go_simp; (try (go_ints; try go_simp)); with_reducible rfl); (try simp only [Act.put, List.setIfInBounds_toArray, List.set_cons_zero, List.set_cons_succ])) | (refine bits_skip (by rfl) ?_; (try simp only [Act.put, List.setIfInBounds_toArray, List.set_cons_zero, List.set_cons_succ])))
          refine bits_eff (by rfl) (fun K hK => ?_)
          go_simp
          (try go_ints)
          refine (ref_put_any (some la) C lb x rr f b d l (rowOf C Y xs) w2.drew LR.out).mono ?_
          rintro e w3 ⟨v3, rfl, r3, b3⟩
          obtain ⟨ta, tc, rfl, tl⟩ := r3.cells
          have L3 := Lib.hid (L2'.out.below b3)
          have RX3 := Lib.hid (r3.up (Nat.zero_le _))
          have S3 : Hid (w3.cell? ⟨gl, Y, none⟩ = some (.slice (some la) C lb) ∧ (w3.cell? ⟨w.heap.size + 1, 0, none⟩ = some (.int .u32 f) ∧ w3.cell? ⟨w.heap.size + 1, 1, none⟩ = some (.int .u32 b) ∧ w3.cell? ⟨w.heap.size + 1, 2, none⟩ = some (.int .u8 d) ∧ w3.cell? ⟨w.heap.size + 1, 3, none⟩ = some (.int .u16 l))) := ⟨(b3.cell (p := ⟨gl, Y, none⟩) hgl2).trans S2.out.1, ⟨Own.cell L3.out.2.1 0, Own.cell L3.out.2.1 1, Own.cell L3.out.2.1 2, Own.cell L3.out.2.1 3⟩⟩
          clear b3 r3 tl
          refine hK _ _ ?_ ?_
          · exact S3.out
          clear hK K
          (try simp only [Act.put, List.setIfInBounds_toArray, List.set_cons_zero, List.set_cons_succ])
          repeat (first | (refine bits_take (v := ?_) (by rfl) ?_ ?_; rotate_left; (· intro w' hS; obtain ⟨s0, s3, s4, s5, s6⟩ := hS; go_simp; (try (go_ints; try go_simp)); with_reducible rfl); (try simp only [Act.put, List.setIfInBounds_toArray, List.set_cons_zero, List.set_cons_succ])) | (refine bits_skip (by rfl) ?_; (try simp only [Act.put, List.setIfInBounds_toArray, List.set_cons_zero, List.set_cons_succ])))
          refine bits_tail (by rfl) (fun K hK => ?_)
          refine rset_op _ _ rfl (i := Y) rfl rfl L3.out.1 hYR RX3.out fun w4 r4 k4 => ?_
          refine hK _ _ ?_
          clear hK K
          (try simp only [Act.put])
          repeat (first | (refine bits_take (v := ?_) (by rfl) ?_ ?_; rotate_left; (· intro w' hS; obtain ⟨s0, s3, s4, s5, s6⟩ := hS; go_simp; (try (go_ints; try go_simp)); with_reducible rfl); (try simp only [Act.put, List.setIfInBounds_toArray, List.set_cons_zero, List.set_cons_succ])) | (refine bits_skip (by rfl) ?_; (try simp only [Act.put, List.setIfInBounds_toArray, List.set_cons_zero, List.set_cons_succ])))
          refine bits_nil ?_
          have L4 : Hid (DoRel w w0.heap.size gl lc R f b d l ((rowsL C R xs).set Y (putW (rowOf C Y xs) x rr f b d l)) w4) := ⟨r4, L3.out.2.1.grown k4 (rw_own L3.out.1 L3.out.2.1 (by decide)), L3.out.2.2.1.grown k4 (rw_own L3.out.1 L3.out.2.2.1 (by decide)), below_grown L3.out.2.2.2 k4 (by have := (rows_addr L3.out.1 (by omega)).choose_spec; omega) L3.out.2.2.2.size⟩
          clear r4 k4
          go_wp2_with fail
          refine (of_any C R gl lc w0.heap.size ((rowsL C R xs).set Y (putW (rowOf C Y xs) x rr f b d l)) _ L4.out.1 o3 o4 o1 o2 HCL.out).mono ?_
          rintro e w10 ⟨v10, rfl, r10, b10⟩
          obtain ⟨va, vc, rfl, _⟩ := r10.cells
          have hwz : w.heap.size ≤ _ := L4.out.2.2.2.size
          have R10 := Lib.hid (r10.up hwz)
          have B10 : Hid (Below w.heap.size w w10) := L4.out.2.2.2.trans (b10.mono hwz)
          have A10 := Lib.hid (L4.out.2.2.1.below b10 L4.out.2.2.1.lt)
          have N10 : Hid (w.heap.size + 2 < w10.heap.size) := A10.out.lt
          have RR10 := Lib.hid r10
          have ha10 := L4.out.2.2.1.lt
          clear r10 b10 hwz
          have hA := A10.out
          go_wp2_with (first
            | (refine gvstore_list rfl _ _ rfl (c := C) (r := R) (sa := va) (sc := vc) rfl rfl hA ?_; intro w11 o11 k11; have O11 := Lib.hid o11; have B11 : Hid (Below w.heap.size w w11) := below_grown B10.out k11 (by omega) B10.out.size; have R11 := Lib.hid ((crow_other RR10.out k11 ha10).up L4.out.2.2.2.size); clear o11 k11 hA)
            | go_in)
          (try clear g0 g1 g2)
          have g0 := Own.cell O11.out 0
          have g1 := Own.cell O11.out 1
          have g2 := Own.cell O11.out 2
          simp only [List.getElem?_toArray, List.getElem?_cons_zero, List.getElem?_cons_succ] at g0 g1 g2
          (try simp only [Exit.inBlock, Exit.then])
          refine bodyPost_ret (v := .agg #[.int .i64 C, .int .i64 R, .slice va ((rowsL C R xs).set Y (putW (rowOf C Y xs) x rr f b d l)).flatten.length vc]) (by simp [results, Tryd.results64, go_sem, g0, g1, g2]) rfl ?_
          rw [HOI.out.1, HOI.out.2, HTQ.out]
          have hfl := HFL.out
          have hr11 := R11.out
          refine ⟨_, rfl, ?_, B11.out⟩
          rw [hfl] at hr11 ⊢
          exact hr11
set_option maxRecDepth 10000 in
set_option maxHeartbeats 4000000 in
theorem ref_do1_any (c r x y m rr f b d l : Int) (a : Option Addr) (n cp : Nat) (xs : List Glyph) (w : World) (hl : Cells w a n xs) (hcp : n ≤ cp) :
    Calls Tryd.prog 64 #[.agg #[.int .i64 c, .int .i64 r, .slice a n cp], .int .i64 1, .int .i64 x, .int .i64 y, .int .i64 m, .int .i32 rr, .agg #[.int .u32 f, .int .u32 b, .int .u8 d, .int .u16 l]] w (GG (okI c r xs f b c) (okI c r xs f b r) (turnP c r xs y f b (fun l' => insertP l' x m f b)) w) := by
  obtain rfl := hl.1
  have HL := Lib.hid hl
  clear hl
  have B0 : Hid (Below w.heap.size w (((w.alloc (.cells #[.int .i64 c, .int .i64 r, .slice a xs.length cp] 49)).alloc (.cells #[.int .u32 f, .int .u32 b, .int .u8 d, .int .u16 l] 26)).alloc (.cells #[.int .i64 0, .int .i64 0, .slice none 0 0] 49))) := (((Below.refl _ _).alloc (Nat.le_refl _) _).alloc (by simp) _).alloc (by simp; omega) _
  have G0 : Hid (Own (((w.alloc (.cells #[.int .i64 c, .int .i64 r, .slice a xs.length cp] 49)).alloc (.cells #[.int .u32 f, .int .u32 b, .int .u8 d, .int .u16 l] 26)).alloc (.cells #[.int .i64 0, .int .i64 0, .slice none 0 0] 49)) w.heap.size 49 #[.int .i64 c, .int .i64 r, .slice a xs.length cp]) := ((Own.new w 49 _).alloc _).alloc _
  have P0' : Own (((w.alloc (.cells #[.int .i64 c, .int .i64 r, .slice a xs.length cp] 49)).alloc (.cells #[.int .u32 f, .int .u32 b, .int .u8 d, .int .u16 l] 26)).alloc (.cells #[.int .i64 0, .int .i64 0, .slice none 0 0] 49)) (w.heap.size + 1) 26 #[.int .u32 f, .int .u32 b, .int .u8 d, .int .u16 l] := by
    have h := (Own.new (w.alloc (.cells #[.int .i64 c, .int .i64 r, .slice a xs.length cp] 49)) 26 #[.int .u32 f, .int .u32 b, .int .u8 d, .int .u16 l]).alloc (.cells #[.int .i64 0, .int .i64 0, .slice none 0 0] 49)
    simpa using h
  have A0' : Own (((w.alloc (.cells #[.int .i64 c, .int .i64 r, .slice a xs.length cp] 49)).alloc (.cells #[.int .u32 f, .int .u32 b, .int .u8 d, .int .u16 l] 26)).alloc (.cells #[.int .i64 0, .int .i64 0, .slice none 0 0] 49)) (w.heap.size + 2) 49 #[.int .i64 0, .int .i64 0, .slice none 0 0] := by
    have h := Own.new ((w.alloc (.cells #[.int .i64 c, .int .i64 r, .slice a xs.length cp] 49)).alloc (.cells #[.int .u32 f, .int .u32 b, .int .u8 d, .int .u16 l] 26)) 49 #[.int .i64 0, .int .i64 0, .slice none 0 0]
    simpa using h
  have P0 := Lib.hid P0'
  have A0 := Lib.hid A0'
  have hz0 : w.heap.size + 3 ≤ (((w.alloc (.cells #[.int .i64 c, .int .i64 r, .slice a xs.length cp] 49)).alloc (.cells #[.int .u32 f, .int .u32 b, .int .u8 d, .int .u16 l] 26)).alloc (.cells #[.int .i64 0, .int .i64 0, .slice none 0 0] 49)).heap.size := by simp
  clear P0' A0'
  have g0 := Own.cell G0.out 0
  have g1 := Own.cell G0.out 1
  have g2 := Own.cell G0.out 2
  simp only [List.getElem?_toArray, List.getElem?_cons_zero, List.getElem?_cons_succ] at g0 g1 g2
  go_enter Tryd.func64, Tryd.ntmps64
  go_wp2_with fail
  generalize ((w.alloc (.cells #[.int .i64 c, .int .i64 r, .slice a xs.length cp] 49)).alloc (.cells #[.int .u32 f, .int .u32 b, .int .u8 d, .int .u16 l] 26)).alloc (.cells #[.int .i64 0, .int .i64 0, .slice none 0 0] 49) = w0 at B0 G0 P0 A0 hz0 g0 g1 g2 ⊢
  refine (ref_rows_any c r a xs.length cp xs w0 (HL.out.below B0.out) hcp).mono ?_
  intro e w1 hp
  unfold RowsPost at hp
  obtain ⟨mb, hmb⟩ : ∃ mb, gridMay c r xs = mb := ⟨_, rfl⟩
  cases mb with
  | false =>
    rw [if_neg (by rw [hmb]; decide)] at hp
    obtain ⟨rfl, b1⟩ := hp
    have B1 : Hid (Below w.heap.size w w1) := B0.out.trans (b1.mono B0.out.size)
    have G1 := Lib.hid (G0.out.below b1 (by omega))
    have P1 := Lib.hid (P0.out.below b1 (by omega))
    have A1 := Lib.hid (A0.out.below b1 (by omega))
    have hz1 : w.heap.size + 3 ≤ w1.heap.size := Nat.le_trans hz0 b1.size
    have HF : Hid (okI c r xs f b c = 0 ∧ okI c r xs f b r = 0 ∧ turnP c r xs y f b (fun l' => insertP l' x m f b) = []) := by unfold okI turnP; rw [hmb, Bool.false_and]; exact ⟨rfl, rfl, rfl⟩
    clear b1 g0 g1 g2 hmb
    have hA := A1.out
    go_wp2_with (first
      | (refine gvstore_list rfl _ _ rfl (c := 0) (r := 0) (sa := none) (sn := 0) (sc := 0) rfl rfl hA ?_; intro w2 o2 k2; have O2 := Lib.hid o2; have B2 : Hid (Below w.heap.size w w2) := below_grown B1.out k2 (by omega) B1.out.size; clear o2 k2 hA)
      | go_in)
    have g0 := Own.cell O2.out 0
    have g1 := Own.cell O2.out 1
    have g2 := Own.cell O2.out 2
    simp only [List.getElem?_toArray, List.getElem?_cons_zero, List.getElem?_cons_succ] at g0 g1 g2
    (try simp only [Exit.inBlock, Exit.then])
    refine bodyPost_ret (v := .agg #[.int .i64 0, .int .i64 0, .slice none 0 0]) (by simp [results, Tryd.results64, go_sem, g0, g1, g2]) rfl ?_
    obtain ⟨h1, h2, h3⟩ := HF.out
    rw [h1, h2, h3]
    exact ⟨_, rfl, CRow.nil _ _, B2.out⟩
  | true =>
    rw [if_pos hmb] at hp
    obtain ⟨v1, rfl, r1, b1⟩ := hp
    have B1 : Hid (Below w.heap.size w w1) := B0.out.trans (b1.mono B0.out.size)
    have G1 := Lib.hid (G0.out.below b1 (by omega))
    have P1 := Lib.hid (P0.out.below b1 (by omega))
    have A1 := Lib.hid (A0.out.below b1 (by omega))
    have hz1 : w.heap.size + 3 ≤ w1.heap.size := Nat.le_trans hz0 b1.size
    obtain ⟨pb, hpb⟩ : ∃ pb, penMay f b = pb := ⟨_, rfl⟩
    have HPB := Lib.hid hpb
    have HMB := Lib.hid hmb
    obtain ⟨C, R, rfl, rfl, hgo⟩ := gmay_iff.1 hmb
    have HGO := Lib.hid hgo
    obtain ⟨o1, o2, o3, o4, o5, o6⟩ := hgo
    rw [Int.toNat_natCast, Int.toNat_natCast] at r1
    obtain ⟨la0, lc, rfl⟩ := rows_form r1
    rw [rowsL_len] at r1 ⊢
    obtain ⟨gl, rfl, _, _, hgl, _⟩ := rows_addr r1 (by omega)
    have Lr1 := Lib.hid r1
    have HO5 := Lib.hid o5
    clear b1 r1 hmb hpb g0 g1 g2 o5 o6
    have e0 := Own.cell P1.out 0
    have e1 := Own.cell P1.out 1
    have e2 := Own.cell P1.out 2
    have e3 := Own.cell P1.out 3
    simp only [List.getElem?_toArray, List.getElem?_cons_zero, List.getElem?_cons_succ] at e0 e1 e2 e3
    go_wp2_with fail
    refine (RVal.as (ref_pen_any f b d l _) (congrArg Value.bool HPB.out)).mono ?_
    rintro e w2 ⟨rfl, b2⟩
    have B2 : Hid (Below w.heap.size w w2) := B1.out.trans (b2.mono B1.out.size)
    have G2 := Lib.hid (G1.out.below b2 (by omega))
    have P2 := Lib.hid (P1.out.below b2 (by omega))
    have A2 := Lib.hid (A1.out.below b2 (by omega))
    have hz2 : w.heap.size + 3 ≤ w2.heap.size := Nat.le_trans hz1 b2.size
    have L2 : Hid (DoRel w w0.heap.size gl lc R f b d l (rowsL C R xs) w2) := ⟨Lr1.out.below b2, P2.out, A2.out, B2.out⟩
    have hgl2' : gl < w2.heap.size := Nat.lt_of_lt_of_le hgl b2.size
    clear b2 e0 e1 e2 e3
    cases pb with
    | false =>
      have HF : Hid (okI C R xs f b C = 0 ∧ okI C R xs f b R = 0 ∧ turnP C R xs y f b (fun l' => insertP l' x m f b) = []) := by unfold okI turnP; rw [HPB.out, Bool.and_false]; exact ⟨rfl, rfl, rfl⟩
      have hA := A2.out
      go_wp2_with (first
        | (refine gvstore_list rfl _ _ rfl (c := 0) (r := 0) (sa := none) (sn := 0) (sc := 0) rfl rfl hA ?_; intro w3 o3 k3; have O3 := Lib.hid o3; have B3 : Hid (Below w.heap.size w w3) := below_grown B2.out k3 (by omega) B2.out.size; clear o3 k3 hA)
        | go_in)
      have g0 := Own.cell O3.out 0
      have g1 := Own.cell O3.out 1
      have g2 := Own.cell O3.out 2
      simp only [List.getElem?_toArray, List.getElem?_cons_zero, List.getElem?_cons_succ] at g0 g1 g2
      (try simp only [Exit.inBlock, Exit.then])
      refine bodyPost_ret (v := .agg #[.int .i64 0, .int .i64 0, .slice none 0 0]) (by simp [results, Tryd.results64, go_sem, g0, g1, g2]) rfl ?_
      obtain ⟨h1, h2, h3⟩ := HF.out
      rw [h1, h2, h3]
      exact ⟨_, rfl, CRow.nil _ _, B3.out⟩
    | true =>
      have hok : (gridMay C R xs && penMay f b) = true := by rw [HMB.out, HPB.out]; rfl
      have HOI : Hid (okI C R xs f b C = C ∧ okI C R xs f b R = R) := by unfold okI; rw [hok]; exact ⟨rfl, rfl⟩
      have HTP : Hid (turnP C R xs y f b (fun l' => insertP l' x m f b) = if 0 ≤ y ∧ y < (R : Int) then setRow xs C y.toNat (insertP (rowOf C y.toNat xs) x m f b) else xs) := by unfold turnP; rw [hok, if_pos rfl, Int.toNat_natCast]; rfl
      clear hok
      obtain ⟨t, htt⟩ : ∃ t, decide (0 ≤ y ∧ y < (R : Int)) = t := ⟨_, rfl⟩
      have HTT := Lib.hid htt
      clear htt
      go_upto_region 4 with fail
      go_cut [37] (fun v wc => v = .bool t ∧ w2 = wc)
      case first =>
        have htt := HTT.out
        cases c1 : decide (0 ≤ y) with
        | false =>
          have e1 := of_decide_eq_false c1
          obtain rfl : t = false := by rw [← htt]; exact decide_eq_false (fun k => e1 k.1)
          clear htt e1
          go_wp2_with fail
          all_goals (go_meet; exact ⟨rfl, rfl⟩)
        | true =>
          have e1 := of_decide_eq_true c1
          cases c2 : decide (y < (R : Int)) with
          | false =>
            have e2 := of_decide_eq_false c2
            obtain rfl : t = false := by rw [← htt]; exact decide_eq_false (fun k => e2 k.2)
            clear htt e1 e2
            go_wp2_with fail
            all_goals (go_meet; exact ⟨rfl, rfl⟩)
          | true =>
            have e2 := of_decide_eq_true c2
            obtain rfl : t = true := by rw [← htt]; exact decide_eq_true ⟨e1, e2⟩
            clear htt e1 e2
            go_wp2_with fail
            all_goals (go_meet; exact ⟨rfl, rfl⟩)
      case rest =>
        obtain ⟨rfl, rfl⟩ := hcut
        cases t with
        | false =>
          have htp := HTP.out
          rw [if_neg (of_decide_eq_false HTT.out)] at htp
          have HTQ := Lib.hid htp
          have HCL : Hid (∀ i, i < R → ((rowsL C R xs).getD i []).length = C) := fun i hi => by rw [rowsL_at hi]; exact row_len HO5.out hi
          clear htp
          go_wp2_with fail
          refine (of_any C R gl lc w0.heap.size (rowsL C R xs) _ L2.out.1 o3 o4 o1 o2 HCL.out).mono ?_
          rintro e w10 ⟨v10, rfl, r10, b10⟩
          obtain ⟨va, vc, rfl, _⟩ := r10.cells
          have hwz : w.heap.size ≤ _ := L2.out.2.2.2.size
          have R10 := Lib.hid (r10.up hwz)
          have B10 : Hid (Below w.heap.size w w10) := L2.out.2.2.2.trans (b10.mono hwz)
          have A10 := Lib.hid (L2.out.2.2.1.below b10 L2.out.2.2.1.lt)
          have N10 : Hid (w.heap.size + 2 < w10.heap.size) := A10.out.lt
          have RR10 := Lib.hid r10
          have ha10 := L2.out.2.2.1.lt
          clear r10 b10 hwz
          have hA := A10.out
          go_wp2_with (first
            | (refine gvstore_list rfl _ _ rfl (c := C) (r := R) (sa := va) (sc := vc) rfl rfl hA ?_; intro w11 o11 k11; have O11 := Lib.hid o11; have B11 : Hid (Below w.heap.size w w11) := below_grown B10.out k11 (by omega) B10.out.size; have R11 := Lib.hid ((crow_other RR10.out k11 ha10).up L2.out.2.2.2.size); clear o11 k11 hA)
            | go_in)
          (try clear g0 g1 g2)
          have g0 := Own.cell O11.out 0
          have g1 := Own.cell O11.out 1
          have g2 := Own.cell O11.out 2
          simp only [List.getElem?_toArray, List.getElem?_cons_zero, List.getElem?_cons_succ] at g0 g1 g2
          (try simp only [Exit.inBlock, Exit.then])
          refine bodyPost_ret (v := .agg #[.int .i64 C, .int .i64 R, .slice va (rowsL C R xs).flatten.length vc]) (by simp [results, Tryd.results64, go_sem, g0, g1, g2]) rfl ?_
          rw [HOI.out.1, HOI.out.2, HTQ.out]
          have hfl := rows_flat HO5.out
          have hr11 := R11.out
          refine ⟨_, rfl, ?_, B11.out⟩
          rw [hfl] at hr11 ⊢
          exact hr11
        | true =>
          have hcond := of_decide_eq_true HTT.out
          obtain ⟨Y, rfl⟩ : ∃ Y : Nat, y = Y := ⟨y.toNat, by omega⟩
          have hYR : Y < R := by omega
          have htp := HTP.out
          rw [if_pos hcond, Int.toNat_natCast] at htp
          have HTQ := Lib.hid htp
          have hrok := HGO.out.2.2.2.2.2 Y hYR
          have hmm : (rowMay (rowOf C Y xs) && penMay f b) = true := by rw [row_yes hrok, HPB.out]; rfl
          have HRL : Hid ((rowOf C Y xs).length = C) := row_len HO5.out hYR
          have hql : (insertP (rowOf C Y xs) x m f b).length = C := (insert_len hmm).trans HRL.out
          have HQL := Lib.hid hql
          have HCL : Hid (∀ i, i < R → (((rowsL C R xs).set Y (insertW (rowOf C Y xs) x m f b)).getD i []).length = C) := fun i hi => by
            rw [← insert_want, rows_set HO5.out hYR hql, rowsL_at hi]
            exact row_len (setRow_len HO5.out hYR hql) hi
          have HFL : Hid (((rowsL C R xs).set Y (insertW (rowOf C Y xs) x m f b)).flatten = setRow xs C Y (insertP (rowOf C Y xs) x m f b)) := by
            have k : ((rowsL C R xs).set Y (insertW (rowOf C Y xs) x m f b)).flatten = setRow xs C Y (insertP (rowOf C Y xs) x m f b) := by
              rw [← insert_want, rows_set HO5.out hYR hql]
              exact rows_flat (setRow_len HO5.out hYR hql)
            exact k
          obtain ⟨la', lb, hcw, hrw, _⟩ := rows_at L2.out.1 hYR
          rw [rowsL_at hYR, HRL.out] at hcw hrw
          have hlc := cells_of hrw
          obtain ⟨_, _, hla, _, _⟩ := hlc.2.2 (by omega)
          obtain ⟨la, hla2⟩ : ∃ la, la' = some la := ⟨_, hla⟩
          subst hla2
          have L2' : Hid (DoRel w w0.heap.size gl lc R f b d l (rowsL C R xs) w2.drew) := ⟨L2.out.1, L2.out.2.1, L2.out.2.2.1, below_drewN L2.out.2.2.2 1⟩
          have S2 : Hid (w2.drew.cell? ⟨gl, Y, none⟩ = some (.slice (some la) C lb) ∧ (w2.drew.cell? ⟨w.heap.size + 1, 0, none⟩ = some (.int .u32 f) ∧ w2.drew.cell? ⟨w.heap.size + 1, 1, none⟩ = some (.int .u32 b) ∧ w2.drew.cell? ⟨w.heap.size + 1, 2, none⟩ = some (.int .u8 d) ∧ w2.drew.cell? ⟨w.heap.size + 1, 3, none⟩ = some (.int .u16 l))) := ⟨hcw, ⟨Own.cell L2'.out.2.1 0, Own.cell L2'.out.2.1 1, Own.cell L2'.out.2.1 2, Own.cell L2'.out.2.1 3⟩⟩
          have LR : Hid (Cells w2.drew (some la) C (rowOf C Y xs)) := hlc
          have hgl2 : gl < w2.drew.heap.size := hgl2'
          have hYi0 : (0 : Int) ≤ (Y : Int) := by omega
          have hYi1 : (Y : Int) < (R : Int) := by omega
          clear hcond htp hrok hmm hql hcw hrw hlc hla
          go_wp2_with fail
          refine wp_region_bits_at (S := fun w' => w'.cell? ⟨gl, Y, none⟩ = some (.slice (some la) C lb) ∧ (w'.cell? ⟨w.heap.size + 1, 0, none⟩ = some (.int .u32 f) ∧ w'.cell? ⟨w.heap.size + 1, 1, none⟩ = some (.int .u32 b) ∧ w'.cell? ⟨w.heap.size + 1, 2, none⟩ = some (.int .u8 d) ∧ w'.cell? ⟨w.heap.size + 1, 3, none⟩ = some (.int .u16 l))) [(0, true), (1, true), (2, true), (3, true), (4, true), (5, true), (6, true), (7, true), (8, true), (9, false), (10, true), (11, false)] [11] (by kernel_rfl) (by kernel_rfl) (fun c a d v w h => by cases d <;> exact h) S2.out ?_
          simp only [bits_, bitOf, List.getElem?_cons_zero, List.getElem?_cons_succ, List.contains_nil, List.contains_cons, Nat.reduceBEq, Bool.or_false]
          repeat (first | (refine bits_take (v := ?_) (by rfl) ?_ ?_; rotate_left; (· intro w' hS; obtain ⟨s0, s3, s4, s5, s6⟩ := hS; go_simp; (try (go_ints; try go_simp)); with_reducible rfl); (try simp only [Act.put, List.setIfInBounds_toArray, List.set_cons_zero, List.set_cons_succ])) | (refine bits_skip (by rfl) ?_; (try simp only [Act.put, List.setIfInBounds_toArray, List.set_cons_zero, List.set_cons_succ])))
          refine bits_eff (by rfl) (fun K hK => ?_)
          go_simp
          (try go_ints)
          refine (ref_insert_any (some la) C lb x m f b d l (rowOf C Y xs) w2.drew LR.out).mono ?_
          rintro e w3 ⟨v3, rfl, r3, b3⟩
          obtain ⟨ta, tc, rfl, tl⟩ := r3.cells
          have L3 := Lib.hid (L2'.out.below b3)
          have RX3 := Lib.hid (r3.up (Nat.zero_le _))
          have S3 : Hid (w3.cell? ⟨gl, Y, none⟩ = some (.slice (some la) C lb) ∧ (w3.cell? ⟨w.heap.size + 1, 0, none⟩ = some (.int .u32 f) ∧ w3.cell? ⟨w.heap.size + 1, 1, none⟩ = some (.int .u32 b) ∧ w3.cell? ⟨w.heap.size + 1, 2, none⟩ = some (.int .u8 d) ∧ w3.cell? ⟨w.heap.size + 1, 3, none⟩ = some (.int .u16 l))) := ⟨(b3.cell (p := ⟨gl, Y, none⟩) hgl2).trans S2.out.1, ⟨Own.cell L3.out.2.1 0, Own.cell L3.out.2.1 1, Own.cell L3.out.2.1 2, Own.cell L3.out.2.1 3⟩⟩
          clear b3 r3 tl
          refine hK _ _ ?_ ?_
          · exact S3.out
          clear hK K
          (try simp only [Act.put, List.setIfInBounds_toArray, List.set_cons_zero, List.set_cons_succ])
          repeat (first | (refine bits_take (v := ?_) (by rfl) ?_ ?_; rotate_left; (· intro w' hS; obtain ⟨s0, s3, s4, s5, s6⟩ := hS; go_simp; (try (go_ints; try go_simp)); with_reducible rfl); (try simp only [Act.put, List.setIfInBounds_toArray, List.set_cons_zero, List.set_cons_succ])) | (refine bits_skip (by rfl) ?_; (try simp only [Act.put, List.setIfInBounds_toArray, List.set_cons_zero, List.set_cons_succ])))
          refine bits_tail (by rfl) (fun K hK => ?_)
          refine rset_op _ _ rfl (i := Y) rfl rfl L3.out.1 hYR RX3.out fun w4 r4 k4 => ?_
          refine hK _ _ ?_
          clear hK K
          (try simp only [Act.put])
          repeat (first | (refine bits_take (v := ?_) (by rfl) ?_ ?_; rotate_left; (· intro w' hS; obtain ⟨s0, s3, s4, s5, s6⟩ := hS; go_simp; (try (go_ints; try go_simp)); with_reducible rfl); (try simp only [Act.put, List.setIfInBounds_toArray, List.set_cons_zero, List.set_cons_succ])) | (refine bits_skip (by rfl) ?_; (try simp only [Act.put, List.setIfInBounds_toArray, List.set_cons_zero, List.set_cons_succ])))
          refine bits_nil ?_
          have L4 : Hid (DoRel w w0.heap.size gl lc R f b d l ((rowsL C R xs).set Y (insertW (rowOf C Y xs) x m f b)) w4) := ⟨r4, L3.out.2.1.grown k4 (rw_own L3.out.1 L3.out.2.1 (by decide)), L3.out.2.2.1.grown k4 (rw_own L3.out.1 L3.out.2.2.1 (by decide)), below_grown L3.out.2.2.2 k4 (by have := (rows_addr L3.out.1 (by omega)).choose_spec; omega) L3.out.2.2.2.size⟩
          clear r4 k4
          go_wp2_with fail
          refine (of_any C R gl lc w0.heap.size ((rowsL C R xs).set Y (insertW (rowOf C Y xs) x m f b)) _ L4.out.1 o3 o4 o1 o2 HCL.out).mono ?_
          rintro e w10 ⟨v10, rfl, r10, b10⟩
          obtain ⟨va, vc, rfl, _⟩ := r10.cells
          have hwz : w.heap.size ≤ _ := L4.out.2.2.2.size
          have R10 := Lib.hid (r10.up hwz)
          have B10 : Hid (Below w.heap.size w w10) := L4.out.2.2.2.trans (b10.mono hwz)
          have A10 := Lib.hid (L4.out.2.2.1.below b10 L4.out.2.2.1.lt)
          have N10 : Hid (w.heap.size + 2 < w10.heap.size) := A10.out.lt
          have RR10 := Lib.hid r10
          have ha10 := L4.out.2.2.1.lt
          clear r10 b10 hwz
          have hA := A10.out
          go_wp2_with (first
            | (refine gvstore_list rfl _ _ rfl (c := C) (r := R) (sa := va) (sc := vc) rfl rfl hA ?_; intro w11 o11 k11; have O11 := Lib.hid o11; have B11 : Hid (Below w.heap.size w w11) := below_grown B10.out k11 (by omega) B10.out.size; have R11 := Lib.hid ((crow_other RR10.out k11 ha10).up L4.out.2.2.2.size); clear o11 k11 hA)
            | go_in)
          (try clear g0 g1 g2)
          have g0 := Own.cell O11.out 0
          have g1 := Own.cell O11.out 1
          have g2 := Own.cell O11.out 2
          simp only [List.getElem?_toArray, List.getElem?_cons_zero, List.getElem?_cons_succ] at g0 g1 g2
          (try simp only [Exit.inBlock, Exit.then])
          refine bodyPost_ret (v := .agg #[.int .i64 C, .int .i64 R, .slice va ((rowsL C R xs).set Y (insertW (rowOf C Y xs) x m f b)).flatten.length vc]) (by simp [results, Tryd.results64, go_sem, g0, g1, g2]) rfl ?_
          rw [HOI.out.1, HOI.out.2, HTQ.out]
          have hfl := HFL.out
          have hr11 := R11.out
          refine ⟨_, rfl, ?_, B11.out⟩
          rw [hfl] at hr11 ⊢
          exact hr11
set_option maxRecDepth 10000 in
set_option maxHeartbeats 4000000 in
theorem ref_do2_any (c r x y m rr f b d l : Int) (a : Option Addr) (n cp : Nat) (xs : List Glyph) (w : World) (hl : Cells w a n xs) (hcp : n ≤ cp) :
    Calls Tryd.prog 64 #[.agg #[.int .i64 c, .int .i64 r, .slice a n cp], .int .i64 2, .int .i64 x, .int .i64 y, .int .i64 m, .int .i32 rr, .agg #[.int .u32 f, .int .u32 b, .int .u8 d, .int .u16 l]] w (GG (okI c r xs f b c) (okI c r xs f b r) (turnP c r xs y f b (fun l' => deleteP l' x m f b)) w) := by
  obtain rfl := hl.1
  have HL := Lib.hid hl
  clear hl
  have B0 : Hid (Below w.heap.size w (((w.alloc (.cells #[.int .i64 c, .int .i64 r, .slice a xs.length cp] 49)).alloc (.cells #[.int .u32 f, .int .u32 b, .int .u8 d, .int .u16 l] 26)).alloc (.cells #[.int .i64 0, .int .i64 0, .slice none 0 0] 49))) := (((Below.refl _ _).alloc (Nat.le_refl _) _).alloc (by simp) _).alloc (by simp; omega) _
  have G0 : Hid (Own (((w.alloc (.cells #[.int .i64 c, .int .i64 r, .slice a xs.length cp] 49)).alloc (.cells #[.int .u32 f, .int .u32 b, .int .u8 d, .int .u16 l] 26)).alloc (.cells #[.int .i64 0, .int .i64 0, .slice none 0 0] 49)) w.heap.size 49 #[.int .i64 c, .int .i64 r, .slice a xs.length cp]) := ((Own.new w 49 _).alloc _).alloc _
  have P0' : Own (((w.alloc (.cells #[.int .i64 c, .int .i64 r, .slice a xs.length cp] 49)).alloc (.cells #[.int .u32 f, .int .u32 b, .int .u8 d, .int .u16 l] 26)).alloc (.cells #[.int .i64 0, .int .i64 0, .slice none 0 0] 49)) (w.heap.size + 1) 26 #[.int .u32 f, .int .u32 b, .int .u8 d, .int .u16 l] := by
    have h := (Own.new (w.alloc (.cells #[.int .i64 c, .int .i64 r, .slice a xs.length cp] 49)) 26 #[.int .u32 f, .int .u32 b, .int .u8 d, .int .u16 l]).alloc (.cells #[.int .i64 0, .int .i64 0, .slice none 0 0] 49)
    simpa using h
  have A0' : Own (((w.alloc (.cells #[.int .i64 c, .int .i64 r, .slice a xs.length cp] 49)).alloc (.cells #[.int .u32 f, .int .u32 b, .int .u8 d, .int .u16 l] 26)).alloc (.cells #[.int .i64 0, .int .i64 0, .slice none 0 0] 49)) (w.heap.size + 2) 49 #[.int .i64 0, .int .i64 0, .slice none 0 0] := by
    have h := Own.new ((w.alloc (.cells #[.int .i64 c, .int .i64 r, .slice a xs.length cp] 49)).alloc (.cells #[.int .u32 f, .int .u32 b, .int .u8 d, .int .u16 l] 26)) 49 #[.int .i64 0, .int .i64 0, .slice none 0 0]
    simpa using h
  have P0 := Lib.hid P0'
  have A0 := Lib.hid A0'
  have hz0 : w.heap.size + 3 ≤ (((w.alloc (.cells #[.int .i64 c, .int .i64 r, .slice a xs.length cp] 49)).alloc (.cells #[.int .u32 f, .int .u32 b, .int .u8 d, .int .u16 l] 26)).alloc (.cells #[.int .i64 0, .int .i64 0, .slice none 0 0] 49)).heap.size := by simp
  clear P0' A0'
  have g0 := Own.cell G0.out 0
  have g1 := Own.cell G0.out 1
  have g2 := Own.cell G0.out 2
  simp only [List.getElem?_toArray, List.getElem?_cons_zero, List.getElem?_cons_succ] at g0 g1 g2
  go_enter Tryd.func64, Tryd.ntmps64
  go_wp2_with fail
  generalize ((w.alloc (.cells #[.int .i64 c, .int .i64 r, .slice a xs.length cp] 49)).alloc (.cells #[.int .u32 f, .int .u32 b, .int .u8 d, .int .u16 l] 26)).alloc (.cells #[.int .i64 0, .int .i64 0, .slice none 0 0] 49) = w0 at B0 G0 P0 A0 hz0 g0 g1 g2 ⊢
  refine (ref_rows_any c r a xs.length cp xs w0 (HL.out.below B0.out) hcp).mono ?_
  intro e w1 hp
  unfold RowsPost at hp
  obtain ⟨mb, hmb⟩ : ∃ mb, gridMay c r xs = mb := ⟨_, rfl⟩
  cases mb with
  | false =>
    rw [if_neg (by rw [hmb]; decide)] at hp
    obtain ⟨rfl, b1⟩ := hp
    have B1 : Hid (Below w.heap.size w w1) := B0.out.trans (b1.mono B0.out.size)
    have G1 := Lib.hid (G0.out.below b1 (by omega))
    have P1 := Lib.hid (P0.out.below b1 (by omega))
    have A1 := Lib.hid (A0.out.below b1 (by omega))
    have hz1 : w.heap.size + 3 ≤ w1.heap.size := Nat.le_trans hz0 b1.size
    have HF : Hid (okI c r xs f b c = 0 ∧ okI c r xs f b r = 0 ∧ turnP c r xs y f b (fun l' => deleteP l' x m f b) = []) := by unfold okI turnP; rw [hmb, Bool.false_and]; exact ⟨rfl, rfl, rfl⟩
    clear b1 g0 g1 g2 hmb
    have hA := A1.out
    go_wp2_with (first
      | (refine gvstore_list rfl _ _ rfl (c := 0) (r := 0) (sa := none) (sn := 0) (sc := 0) rfl rfl hA ?_; intro w2 o2 k2; have O2 := Lib.hid o2; have B2 : Hid (Below w.heap.size w w2) := below_grown B1.out k2 (by omega) B1.out.size; clear o2 k2 hA)
      | go_in)
    have g0 := Own.cell O2.out 0
    have g1 := Own.cell O2.out 1
    have g2 := Own.cell O2.out 2
    simp only [List.getElem?_toArray, List.getElem?_cons_zero, List.getElem?_cons_succ] at g0 g1 g2
    (try simp only [Exit.inBlock, Exit.then])
    refine bodyPost_ret (v := .agg #[.int .i64 0, .int .i64 0, .slice none 0 0]) (by simp [results, Tryd.results64, go_sem, g0, g1, g2]) rfl ?_
    obtain ⟨h1, h2, h3⟩ := HF.out
    rw [h1, h2, h3]
    exact ⟨_, rfl, CRow.nil _ _, B2.out⟩
  | true =>
    rw [if_pos hmb] at hp
    obtain ⟨v1, rfl, r1, b1⟩ := hp
    have B1 : Hid (Below w.heap.size w w1) := B0.out.trans (b1.mono B0.out.size)
    have G1 := Lib.hid (G0.out.below b1 (by omega))
    have P1 := Lib.hid (P0.out.below b1 (by omega))
    have A1 := Lib.hid (A0.out.below b1 (by omega))
    have hz1 : w.heap.size + 3 ≤ w1.heap.size := Nat.le_trans hz0 b1.size
    obtain ⟨pb, hpb⟩ : ∃ pb, penMay f b = pb := ⟨_, rfl⟩
    have HPB := Lib.hid hpb
    have HMB := Lib.hid hmb
    obtain ⟨C, R, rfl, rfl, hgo⟩ := gmay_iff.1 hmb
    have HGO := Lib.hid hgo
    obtain ⟨o1, o2, o3, o4, o5, o6⟩ := hgo
    rw [Int.toNat_natCast, Int.toNat_natCast] at r1
    obtain ⟨la0, lc, rfl⟩ := rows_form r1
    rw [rowsL_len] at r1 ⊢
    obtain ⟨gl, rfl, _, _, hgl, _⟩ := rows_addr r1 (by omega)
    have Lr1 := Lib.hid r1
    have HO5 := Lib.hid o5
    clear b1 r1 hmb hpb g0 g1 g2 o5 o6
    have e0 := Own.cell P1.out 0
    have e1 := Own.cell P1.out 1
    have e2 := Own.cell P1.out 2
    have e3 := Own.cell P1.out 3
    simp only [List.getElem?_toArray, List.getElem?_cons_zero, List.getElem?_cons_succ] at e0 e1 e2 e3
    go_wp2_with fail
    refine (RVal.as (ref_pen_any f b d l _) (congrArg Value.bool HPB.out)).mono ?_
    rintro e w2 ⟨rfl, b2⟩
    have B2 : Hid (Below w.heap.size w w2) := B1.out.trans (b2.mono B1.out.size)
    have G2 := Lib.hid (G1.out.below b2 (by omega))
    have P2 := Lib.hid (P1.out.below b2 (by omega))
    have A2 := Lib.hid (A1.out.below b2 (by omega))
    have hz2 : w.heap.size + 3 ≤ w2.heap.size := Nat.le_trans hz1 b2.size
    have L2 : Hid (DoRel w w0.heap.size gl lc R f b d l (rowsL C R xs) w2) := ⟨Lr1.out.below b2, P2.out, A2.out, B2.out⟩
    have hgl2' : gl < w2.heap.size := Nat.lt_of_lt_of_le hgl b2.size
    clear b2 e0 e1 e2 e3
    cases pb with
    | false =>
      have HF : Hid (okI C R xs f b C = 0 ∧ okI C R xs f b R = 0 ∧ turnP C R xs y f b (fun l' => deleteP l' x m f b) = []) := by unfold okI turnP; rw [HPB.out, Bool.and_false]; exact ⟨rfl, rfl, rfl⟩
      have hA := A2.out
      go_wp2_with (first
        | (refine gvstore_list rfl _ _ rfl (c := 0) (r := 0) (sa := none) (sn := 0) (sc := 0) rfl rfl hA ?_; intro w3 o3 k3; have O3 := Lib.hid o3; have B3 : Hid (Below w.heap.size w w3) := below_grown B2.out k3 (by omega) B2.out.size; clear o3 k3 hA)
        | go_in)
      have g0 := Own.cell O3.out 0
      have g1 := Own.cell O3.out 1
      have g2 := Own.cell O3.out 2
      simp only [List.getElem?_toArray, List.getElem?_cons_zero, List.getElem?_cons_succ] at g0 g1 g2
      (try simp only [Exit.inBlock, Exit.then])
      refine bodyPost_ret (v := .agg #[.int .i64 0, .int .i64 0, .slice none 0 0]) (by simp [results, Tryd.results64, go_sem, g0, g1, g2]) rfl ?_
      obtain ⟨h1, h2, h3⟩ := HF.out
      rw [h1, h2, h3]
      exact ⟨_, rfl, CRow.nil _ _, B3.out⟩
    | true =>
      have hok : (gridMay C R xs && penMay f b) = true := by rw [HMB.out, HPB.out]; rfl
      have HOI : Hid (okI C R xs f b C = C ∧ okI C R xs f b R = R) := by unfold okI; rw [hok]; exact ⟨rfl, rfl⟩
      have HTP : Hid (turnP C R xs y f b (fun l' => deleteP l' x m f b) = if 0 ≤ y ∧ y < (R : Int) then setRow xs C y.toNat (deleteP (rowOf C y.toNat xs) x m f b) else xs) := by unfold turnP; rw [hok, if_pos rfl, Int.toNat_natCast]; rfl
      clear hok
      obtain ⟨t, htt⟩ : ∃ t, decide (0 ≤ y ∧ y < (R : Int)) = t := ⟨_, rfl⟩
      have HTT := Lib.hid htt
      clear htt
      go_upto_region 4 with fail
      go_cut [37] (fun v wc => v = .bool t ∧ w2 = wc)
      case first =>
        have htt := HTT.out
        cases c1 : decide (0 ≤ y) with
        | false =>
          have e1 := of_decide_eq_false c1
          obtain rfl : t = false := by rw [← htt]; exact decide_eq_false (fun k => e1 k.1)
          clear htt e1
          go_wp2_with fail
          all_goals (go_meet; exact ⟨rfl, rfl⟩)
        | true =>
          have e1 := of_decide_eq_true c1
          cases c2 : decide (y < (R : Int)) with
          | false =>
            have e2 := of_decide_eq_false c2
            obtain rfl : t = false := by rw [← htt]; exact decide_eq_false (fun k => e2 k.2)
            clear htt e1 e2
            go_wp2_with fail
            all_goals (go_meet; exact ⟨rfl, rfl⟩)
          | true =>
            have e2 := of_decide_eq_true c2
            obtain rfl : t = true := by rw [← htt]; exact decide_eq_true ⟨e1, e2⟩
            clear htt e1 e2
            go_wp2_with fail
            all_goals (go_meet; exact ⟨rfl, rfl⟩)
      case rest =>
        obtain ⟨rfl, rfl⟩ := hcut
        cases t with
        | false =>
          have htp := HTP.out
          rw [if_neg (of_decide_eq_false HTT.out)] at htp
          have HTQ := Lib.hid htp
          have HCL : Hid (∀ i, i < R → ((rowsL C R xs).getD i []).length = C) := fun i hi => by rw [rowsL_at hi]; exact row_len HO5.out hi
          clear htp
          go_wp2_with fail
          refine (of_any C R gl lc w0.heap.size (rowsL C R xs) _ L2.out.1 o3 o4 o1 o2 HCL.out).mono ?_
          rintro e w10 ⟨v10, rfl, r10, b10⟩
          obtain ⟨va, vc, rfl, _⟩ := r10.cells
          have hwz : w.heap.size ≤ _ := L2.out.2.2.2.size
          have R10 := Lib.hid (r10.up hwz)
          have B10 : Hid (Below w.heap.size w w10) := L2.out.2.2.2.trans (b10.mono hwz)
          have A10 := Lib.hid (L2.out.2.2.1.below b10 L2.out.2.2.1.lt)
          have N10 : Hid (w.heap.size + 2 < w10.heap.size) := A10.out.lt
          have RR10 := Lib.hid r10
          have ha10 := L2.out.2.2.1.lt
          clear r10 b10 hwz
          have hA := A10.out
          go_wp2_with (first
            | (refine gvstore_list rfl _ _ rfl (c := C) (r := R) (sa := va) (sc := vc) rfl rfl hA ?_; intro w11 o11 k11; have O11 := Lib.hid o11; have B11 : Hid (Below w.heap.size w w11) := below_grown B10.out k11 (by omega) B10.out.size; have R11 := Lib.hid ((crow_other RR10.out k11 ha10).up L2.out.2.2.2.size); clear o11 k11 hA)
            | go_in)
          (try clear g0 g1 g2)
          have g0 := Own.cell O11.out 0
          have g1 := Own.cell O11.out 1
          have g2 := Own.cell O11.out 2
          simp only [List.getElem?_toArray, List.getElem?_cons_zero, List.getElem?_cons_succ] at g0 g1 g2
          (try simp only [Exit.inBlock, Exit.then])
          refine bodyPost_ret (v := .agg #[.int .i64 C, .int .i64 R, .slice va (rowsL C R xs).flatten.length vc]) (by simp [results, Tryd.results64, go_sem, g0, g1, g2]) rfl ?_
          rw [HOI.out.1, HOI.out.2, HTQ.out]
          have hfl := rows_flat HO5.out
          have hr11 := R11.out
          refine ⟨_, rfl, ?_, B11.out⟩
          rw [hfl] at hr11 ⊢
          exact hr11
        | true =>
          have hcond := of_decide_eq_true HTT.out
          obtain ⟨Y, rfl⟩ : ∃ Y : Nat, y = Y := ⟨y.toNat, by omega⟩
          have hYR : Y < R := by omega
          have htp := HTP.out
          rw [if_pos hcond, Int.toNat_natCast] at htp
          have HTQ := Lib.hid htp
          have hrok := HGO.out.2.2.2.2.2 Y hYR
          have hmm : (rowMay (rowOf C Y xs) && penMay f b) = true := by rw [row_yes hrok, HPB.out]; rfl
          have HRL : Hid ((rowOf C Y xs).length = C) := row_len HO5.out hYR
          have hql : (deleteP (rowOf C Y xs) x m f b).length = C := (delete_len hmm).trans HRL.out
          have HQL := Lib.hid hql
          have HCL : Hid (∀ i, i < R → (((rowsL C R xs).set Y (deleteW (rowOf C Y xs) x m f b)).getD i []).length = C) := fun i hi => by
            rw [← delete_want, rows_set HO5.out hYR hql, rowsL_at hi]
            exact row_len (setRow_len HO5.out hYR hql) hi
          have HFL : Hid (((rowsL C R xs).set Y (deleteW (rowOf C Y xs) x m f b)).flatten = setRow xs C Y (deleteP (rowOf C Y xs) x m f b)) := by
            have k : ((rowsL C R xs).set Y (deleteW (rowOf C Y xs) x m f b)).flatten = setRow xs C Y (deleteP (rowOf C Y xs) x m f b) := by
              rw [← delete_want, rows_set HO5.out hYR hql]
              exact rows_flat (setRow_len HO5.out hYR hql)
            exact k
          obtain ⟨la', lb, hcw, hrw, _⟩ := rows_at L2.out.1 hYR
          rw [rowsL_at hYR, HRL.out] at hcw hrw
          have hlc := cells_of hrw
          obtain ⟨_, _, hla, _, _⟩ := hlc.2.2 (by omega)
          obtain ⟨la, hla2⟩ : ∃ la, la' = some la := ⟨_, hla⟩
          subst hla2
          have L2' : Hid (DoRel w w0.heap.size gl lc R f b d l (rowsL C R xs) w2.drew) := ⟨L2.out.1, L2.out.2.1, L2.out.2.2.1, below_drewN L2.out.2.2.2 1⟩
          have S2 : Hid (w2.drew.cell? ⟨gl, Y, none⟩ = some (.slice (some la) C lb) ∧ (w2.drew.cell? ⟨w.heap.size + 1, 0, none⟩ = some (.int .u32 f) ∧ w2.drew.cell? ⟨w.heap.size + 1, 1, none⟩ = some (.int .u32 b) ∧ w2.drew.cell? ⟨w.heap.size + 1, 2, none⟩ = some (.int .u8 d) ∧ w2.drew.cell? ⟨w.heap.size + 1, 3, none⟩ = some (.int .u16 l))) := ⟨hcw, ⟨Own.cell L2'.out.2.1 0, Own.cell L2'.out.2.1 1, Own.cell L2'.out.2.1 2, Own.cell L2'.out.2.1 3⟩⟩
          have LR : Hid (Cells w2.drew (some la) C (rowOf C Y xs)) := hlc
          have hgl2 : gl < w2.drew.heap.size := hgl2'
          have hYi0 : (0 : Int) ≤ (Y : Int) := by omega
          have hYi1 : (Y : Int) < (R : Int) := by omega
          clear hcond htp hrok hmm hql hcw hrw hlc hla
          go_wp2_with fail
          refine wp_region_bits_at (S := fun w' => w'.cell? ⟨gl, Y, none⟩ = some (.slice (some la) C lb) ∧ (w'.cell? ⟨w.heap.size + 1, 0, none⟩ = some (.int .u32 f) ∧ w'.cell? ⟨w.heap.size + 1, 1, none⟩ = some (.int .u32 b) ∧ w'.cell? ⟨w.heap.size + 1, 2, none⟩ = some (.int .u8 d) ∧ w'.cell? ⟨w.heap.size + 1, 3, none⟩ = some (.int .u16 l))) [(0, true), (1, true), (2, true), (3, true), (4, true), (5, true), (6, true), (7, true), (8, true), (9, false), (10, true), (11, false)] [11] (by kernel_rfl) (by kernel_rfl) (fun c a d v w h => by cases d <;> exact h) S2.out ?_
          simp only [bits_, bitOf, List.getElem?_cons_zero, List.getElem?_cons_succ, List.contains_nil, List.contains_cons, Nat.reduceBEq, Bool.or_false]
          repeat (first | (refine bits_take (v := ?_) (by rfl) ?_ ?_; rotate_left; (· intro w' hS; obtain ⟨s0, s3, s4, s5, s6⟩ := hS; go_simp; (try (go_ints; try go_simp)); with_reducible rfl); (try simp only [Act.put, List.setIfInBounds_toArray, List.set_cons_zero, List.set_cons_succ])) | (refine bits_skip (by rfl) ?_; (try simp only [Act.put, List.setIfInBounds_toArray, List.set_cons_zero, List.set_cons_succ])))
          refine bits_eff (by rfl) (fun K hK => ?_)
          go_simp
          (try go_ints)
          refine (ref_delete_any (some la) C lb x m f b d l (rowOf C Y xs) w2.drew LR.out).mono ?_
          rintro e w3 ⟨v3, rfl, r3, b3⟩
          obtain ⟨ta, tc, rfl, tl⟩ := r3.cells
          have L3 := Lib.hid (L2'.out.below b3)
          have RX3 := Lib.hid (r3.up (Nat.zero_le _))
          have S3 : Hid (w3.cell? ⟨gl, Y, none⟩ = some (.slice (some la) C lb) ∧ (w3.cell? ⟨w.heap.size + 1, 0, none⟩ = some (.int .u32 f) ∧ w3.cell? ⟨w.heap.size + 1, 1, none⟩ = some (.int .u32 b) ∧ w3.cell? ⟨w.heap.size + 1, 2, none⟩ = some (.int .u8 d) ∧ w3.cell? ⟨w.heap.size + 1, 3, none⟩ = some (.int .u16 l))) := ⟨(b3.cell (p := ⟨gl, Y, none⟩) hgl2).trans S2.out.1, ⟨Own.cell L3.out.2.1 0, Own.cell L3.out.2.1 1, Own.cell L3.out.2.1 2, Own.cell L3.out.2.1 3⟩⟩
          clear b3 r3 tl
          refine hK _ _ ?_ ?_
          · exact S3.out
          clear hK K
          (try simp only [Act.put, List.setIfInBounds_toArray, List.set_cons_zero, List.set_cons_succ])
          repeat (first | (refine bits_take (v := ?_) (by rfl) ?_ ?_; rotate_left; (· intro w' hS; obtain ⟨s0, s3, s4, s5, s6⟩ := hS; go_simp; (try (go_ints; try go_simp)); with_reducible rfl); (try simp only [Act.put, List.setIfInBounds_toArray, List.set_cons_zero, List.set_cons_succ])) | (refine bits_skip (by rfl) ?_; (try simp only [Act.put, List.setIfInBounds_toArray, List.set_cons_zero, List.set_cons_succ])))
          refine bits_tail (by rfl) (fun K hK => ?_)
          refine rset_op _ _ rfl (i := Y) rfl rfl L3.out.1 hYR RX3.out fun w4 r4 k4 => ?_
          refine hK _ _ ?_
          clear hK K
          (try simp only [Act.put])
          repeat (first | (refine bits_take (v := ?_) (by rfl) ?_ ?_; rotate_left; (· intro w' hS; obtain ⟨s0, s3, s4, s5, s6⟩ := hS; go_simp; (try (go_ints; try go_simp)); with_reducible rfl); (try simp only [Act.put, List.setIfInBounds_toArray, List.set_cons_zero, List.set_cons_succ])) | (refine bits_skip (by rfl) ?_; (try simp only [Act.put, List.setIfInBounds_toArray, List.set_cons_zero, List.set_cons_succ])))
          refine bits_nil ?_
          have L4 : Hid (DoRel w w0.heap.size gl lc R f b d l ((rowsL C R xs).set Y (deleteW (rowOf C Y xs) x m f b)) w4) := ⟨r4, L3.out.2.1.grown k4 (rw_own L3.out.1 L3.out.2.1 (by decide)), L3.out.2.2.1.grown k4 (rw_own L3.out.1 L3.out.2.2.1 (by decide)), below_grown L3.out.2.2.2 k4 (by have := (rows_addr L3.out.1 (by omega)).choose_spec; omega) L3.out.2.2.2.size⟩
          clear r4 k4
          go_wp2_with fail
          refine (of_any C R gl lc w0.heap.size ((rowsL C R xs).set Y (deleteW (rowOf C Y xs) x m f b)) _ L4.out.1 o3 o4 o1 o2 HCL.out).mono ?_
          rintro e w10 ⟨v10, rfl, r10, b10⟩
          obtain ⟨va, vc, rfl, _⟩ := r10.cells
          have hwz : w.heap.size ≤ _ := L4.out.2.2.2.size
          have R10 := Lib.hid (r10.up hwz)
          have B10 : Hid (Below w.heap.size w w10) := L4.out.2.2.2.trans (b10.mono hwz)
          have A10 := Lib.hid (L4.out.2.2.1.below b10 L4.out.2.2.1.lt)
          have N10 : Hid (w.heap.size + 2 < w10.heap.size) := A10.out.lt
          have RR10 := Lib.hid r10
          have ha10 := L4.out.2.2.1.lt
          clear r10 b10 hwz
          have hA := A10.out
          go_wp2_with (first
            | (refine gvstore_list rfl _ _ rfl (c := C) (r := R) (sa := va) (sc := vc) rfl rfl hA ?_; intro w11 o11 k11; have O11 := Lib.hid o11; have B11 : Hid (Below w.heap.size w w11) := below_grown B10.out k11 (by omega) B10.out.size; have R11 := Lib.hid ((crow_other RR10.out k11 ha10).up L4.out.2.2.2.size); clear o11 k11 hA)
            | go_in)
          (try clear g0 g1 g2)
          have g0 := Own.cell O11.out 0
          have g1 := Own.cell O11.out 1
          have g2 := Own.cell O11.out 2
          simp only [List.getElem?_toArray, List.getElem?_cons_zero, List.getElem?_cons_succ] at g0 g1 g2
          (try simp only [Exit.inBlock, Exit.then])
          refine bodyPost_ret (v := .agg #[.int .i64 C, .int .i64 R, .slice va ((rowsL C R xs).set Y (deleteW (rowOf C Y xs) x m f b)).flatten.length vc]) (by simp [results, Tryd.results64, go_sem, g0, g1, g2]) rfl ?_
          rw [HOI.out.1, HOI.out.2, HTQ.out]
          have hfl := HFL.out
          have hr11 := R11.out
          refine ⟨_, rfl, ?_, B11.out⟩
          rw [hfl] at hr11 ⊢
          exact hr11
end Go.Proofs.YtlhcehealjdbdaaDoor
