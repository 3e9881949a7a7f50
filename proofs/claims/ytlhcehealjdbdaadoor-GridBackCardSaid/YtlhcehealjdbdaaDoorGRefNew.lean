/- A new grid, as the document says. -/
import Derived.Test.YtlhcehealjdbdaaDoorGOf
import Derived.Test.YtlhcehealjdbdaaDoorGBlanks
import Derived.Test.YtlhcehealjdbdaaDoorGNew
import Derived.Deep.DeepCutAuto
namespace Go.Proofs.YtlhcehealjdbdaaDoor
open Go.RowKit
set_option linter.unusedSimpArgs false
set_option linter.unusedVariables false
attribute [local go_sem] alloc_drewN setCell_drewN


def NwRel (w : World) (C q : Nat) (vo : Value) (wr : World) : Prop := RowsAt wr w.heap.size vo (List.replicate q (List.replicate C (blank 0))) ∧ Own wr w.heap.size 49 #[.int .i64 0, .int .i64 0, .slice none 0 0] ∧ Below w.heap.size w wr
theorem nw_ne {w : World} {b g : Nat} {v : Value} {L : List (List Glyph)} {cs : Array Value} (h : RowsAt w b v L) (ho : Own w g 49 cs) : some g ≠ v.ownBlock := by
  obtain ⟨vs, _, k2, _⟩ := h
  intro e
  exact (apart_own k2 ho (by decide)).elim (fun h => by rw [h] at e; cases e) (fun h => h e.symm)
theorem rep_snoc {q : Nat} {l : List Glyph} : List.replicate q l ++ [l] = List.replicate (q + 1) l := (List.replicate_succ' ..).symm
theorem rep_flat {C R : Nat} {x : Glyph} : (List.replicate R (List.replicate C x)).flatten = List.replicate (C * R) x := by
  induction R with
  | zero => simp
  | succ n ih => rw [List.replicate_succ, List.flatten_cons, ih, List.replicate_append_replicate, Nat.mul_succ, Nat.add_comm]
theorem rep_get {C R i : Nat} {x : Glyph} (h : i < R) : (List.replicate R (List.replicate C x)).getD i [] = List.replicate C x := by
  rw [List.getD_eq_getElem?_getD, List.getElem?_replicate, if_pos h]
  rfl
set_option maxRecDepth 10000 in
set_option maxHeartbeats 2000000 in
theorem ref_new_any (c r : Int) (w : World) : Calls Tryd.prog 32 #[.int .i64 c, .int .i64 r] w (NewPost c r w) := by
  obtain ⟨fb, hfb⟩ : ∃ fb, fitsB c r = fb := ⟨_, rfl⟩
  have HFB := Lib.hid hfb
  have B0 : Hid (Below w.heap.size w (w.alloc (.cells #[.int .i64 0, .int .i64 0, .slice none 0 0] 49))) := (Below.refl _ _).alloc (Nat.le_refl _) _
  have O0 : Hid (Own (w.alloc (.cells #[.int .i64 0, .int .i64 0, .slice none 0 0] 49)) w.heap.size 49 #[.int .i64 0, .int .i64 0, .slice none 0 0]) := Own.new w 49 _
  have hz0 : (w.alloc (.cells #[.int .i64 0, .int .i64 0, .slice none 0 0] 49)).heap.size = w.heap.size + 1 := by simp
  go_enter Tryd.func32, Tryd.ntmps32
  go_upto_region 1 with fail
  generalize w.alloc (.cells #[.int .i64 0, .int .i64 0, .slice none 0 0] 49) = w0 at B0 O0 hz0 ⊢
  go_cut [21] (fun v wc => v = .bool (!fb) ∧ w0 = wc)
  case first =>
    unfold fitsB at hfb
    cases t1 : decide (c < 1) with
    | true =>
      have e : fb = false := by rw [← hfb, decide_eq_false (p := 1 ≤ c) (by have := of_decide_eq_true t1; omega)]; rfl
      have HE := Lib.hid e
      clear hfb e
      go_wp2_with fail
      go_meet
      exact ⟨by rw [HE.out]; rfl, rfl⟩
    | false =>
    cases t2 : decide (80 < c) with
    | true =>
      have e : fb = false := by rw [← hfb, decide_eq_false (p := c ≤ 80) (by have := of_decide_eq_true t2; omega), Bool.and_false]; rfl
      have HE := Lib.hid e
      clear hfb e
      go_wp2_with fail
      go_meet
      exact ⟨by rw [HE.out]; rfl, rfl⟩
    | false =>
    cases t3 : decide (r < 1) with
    | true =>
      have e : fb = false := by rw [← hfb, decide_eq_false (p := 1 ≤ r) (by have := of_decide_eq_true t3; omega), Bool.and_false]; rfl
      have HE := Lib.hid e
      clear hfb e
      go_wp2_with fail
      go_meet
      exact ⟨by rw [HE.out]; rfl, rfl⟩
    | false =>
    cases t4 : decide (24 < r) with
    | true =>
      have e : fb = false := by rw [← hfb, decide_eq_false (p := r ≤ 24) (by have := of_decide_eq_true t4; omega), Bool.and_false]
      have HE := Lib.hid e
      clear hfb e
      go_wp2_with fail
      go_meet
      exact ⟨by rw [HE.out]; rfl, rfl⟩
    | false =>
      have e : fb = true := by
        rw [← hfb, decide_eq_true (p := 1 ≤ c) (by have := of_decide_eq_false t1; omega), decide_eq_true (p := c ≤ 80) (by have := of_decide_eq_false t2; omega), decide_eq_true (p := 1 ≤ r) (by have := of_decide_eq_false t3; omega), decide_eq_true (p := r ≤ 24) (by have := of_decide_eq_false t4; omega)]
        rfl
      have HE := Lib.hid e
      clear hfb e
      go_wp2_with fail
      go_meet
      exact ⟨by rw [HE.out]; rfl, rfl⟩
  case rest =>
    obtain ⟨rfl, rfl⟩ := hcut
    cases fb with
    | false =>
      clear hfb
      have hown := O0.out
      go_wp2_with (first
        | (refine gvstore_list rfl _ _ rfl (c := 0) (r := 0) (sa := none) (sn := 0) (sc := 0) rfl rfl hown ?_; intro w1 o1 g1; have B1 : Hid (Below w.heap.size w w1) := below_grown B0.out g1 (Nat.le_refl _) B0.out.size; have O1 := Lib.hid o1; clear o1 g1 hown)
        | go_in)
      have g0 := Own.cell O1.out 0
      have g1 := Own.cell O1.out 1
      have g2 := Own.cell O1.out 2
      simp only [List.getElem?_toArray, List.getElem?_cons_zero, List.getElem?_cons_succ] at g0 g1 g2
      (try simp only [Exit.inBlock, Exit.then])
      refine bodyPost_ret (v := .tuple #[.agg #[.int .i64 0, .int .i64 0, .slice none 0 0], .int .i64 1]) (by simp [results, Tryd.results32, go_sem, g0, g1, g2]) rfl ?_
      unfold NewPost
      rw [if_neg (by rw [HFB.out]; decide)]
      exact ⟨rfl, B1.out⟩
    | true =>
      simp only [Bool.not_true]
      obtain ⟨a1, a2, a3, a4⟩ := fits_iff.1 hfb
      clear hfb
      obtain ⟨C, rfl⟩ : ∃ C : Nat, c = C := ⟨c.toNat, by omega⟩
      obtain ⟨R, rfl⟩ : ∃ R : Nat, r = R := ⟨r.toNat, by omega⟩
      have hC8 : C ≤ 80 := by omega
      have hR24 : R ≤ 24 := by omega
      go_upto_region 4 with fail
      have HL0 : Hid (NwRel w C 0 (.slice (some ⟨w0.heap.size, 0, none⟩) 0 0) (w0.alloc (.cells #[] 29))) := by
        obtain ⟨vs, k1, k2, k3⟩ := RowsAt.nil w0
        refine ⟨⟨vs, k1, ?_, k3⟩, O0.out.alloc _, B0.out.alloc B0.out.size _⟩
        refine ⟨k2.1, ?_⟩
        rcases k2.2 with hn | ⟨g', cap, cur, h1, h2, h3⟩
        · exact .inl hn
        · exact .inr ⟨g', cap, cur, h1, by omega, h3⟩
      generalize w0.alloc (.cells #[] 29) = w1 at HL0 ⊢
      rw [hz0] at HL0
      clear O0 B0 hz0
      go_wp2_with fail
      go_loopw [6, 7] (fun vo v wr => ∃ q : Nat, q ≤ R ∧ v = .int .i64 q ∧ Hid (NwRel w C q vo wr)) (fun _ v _ => R - (intOf v).toNat)
      case atStart => exact ⟨0, by omega, rfl, HL0⟩
      case round =>
        obtain ⟨q, hq1, rfl, HR⟩ := hrel
        clear HL0
        by_cases hq : q < R
        · have hdq : decide (q < R) = true := decide_eq_true hq
          obtain ⟨oa, oc, hvo⟩ := rows_form HR.out.1
          rw [List.length_replicate] at hvo
          subst hvo
          go_wp2_with fail
          refine (blanks_any C hC8 0 0 0 0 _).mono ?_
          rintro e w3 ⟨v3, rfl, r3, b3⟩
          obtain ⟨ra, rc, rfl, _⟩ := r3.cells
          have hlen : (List.replicate C (blank 0)).length = C := List.length_replicate
          rw [hlen] at r3 ⊢
          clear hlen
          have HX : Hid (NwRel w C q (.slice oa q oc) w3) := ⟨HR.out.1.below b3, HR.out.2.1.below b3 HR.out.2.1.lt, HR.out.2.2.trans (b3.mono HR.out.2.2.size)⟩
          have HRW : Hid (CRow w3 0 (.slice ra C rc) (List.replicate C (blank 0))) := r3.up (Nat.zero_le _)
          have hnew := Own.new w3 29 #[.slice ra C rc]
          clear r3 b3 HR
          go_wp2_with (first
            | (at_builtin; refine rapp rfl _ _ rfl rfl (HX.out.1.below ((Below.refl _ _).alloc (Nat.le_refl _) _)) rfl (Own.cell hnew 0) (HRW.out.alloc _) (by rw [List.length_replicate]; omega) (by have := HX.out.2.2.size; simp; omega) ?_; intro v5 w5 r5 k5 b5; have HY : Hid (NwRel w C (q + 1) v5 w5) := ⟨by rw [← rep_snoc]; exact r5, (HX.out.2.1.alloc _).grown k5 (nw_ne HX.out.1 HX.out.2.1), (HX.out.2.2.alloc HX.out.2.2.size _).trans b5⟩; clear r5 k5 b5)
            | go_in)
          go_roundw
          case rel => exact ⟨q + 1, by omega, by go_num, HY⟩
          case measure => simp [intOf]; omega
        · obtain rfl : q = R := by omega
          have hdq : decide (q < q) = false := decide_eq_false hq
          obtain ⟨oa, oc, hvo⟩ := rows_form HR.out.1
          rw [List.length_replicate] at hvo
          subst hvo
          obtain ⟨gl, rfl, _, _, _, _⟩ := rows_addr HR.out.1 (by omega)
          have HOF := Lib.hid (of_any C q gl oc w.heap.size (List.replicate q (List.replicate C (blank 0))) wr HR.out.1 (by omega) hR24 (by omega) hC8 (fun i hi => by rw [rep_get hi, List.length_replicate]))
          rw [rep_flat] at HOF
          have O4 := Lib.hid HR.out.2.1
          have B4 := Lib.hid HR.out.2.2
          clear HR hq
          go_wp2_with fail
          refine HOF.out.mono ?_
          clear HOF
          rintro e w5 ⟨v5, rfl, r5, b5⟩
          obtain ⟨va, vc, rfl, _⟩ := r5.cells
          have O5 := Lib.hid (O4.out.below b5 O4.out.lt)
          have B5 : Hid (Below w.heap.size w w5) := B4.out.trans (b5.mono B4.out.size)
          have R5 := Lib.hid (r5.up B4.out.size)
          clear r5 b5
          have hown := O5.out
          generalize (List.replicate (C * q) (blank 0)).length = vn at R5 ⊢
          go_wp2_with (first
            | (refine gvstore_list rfl _ _ rfl (c := C) (r := q) (sa := va) (sn := vn) (sc := vc) rfl rfl hown ?_; intro w6 o6 k6; have O6 := Lib.hid o6; have B6 : Hid (Below w.heap.size w w6) := below_grown B5.out k6 (Nat.le_refl _) B5.out.size; have R6 : Hid (CRow w6 w.heap.size (.slice va vn vc) (List.replicate (C * q) (blank 0))) := World.ownsRow.kept R5.out k6 (apart_own R5.out O5.out (by decide)); clear o6 k6 hown)
            | go_in)
          have g0 := Own.cell O6.out 0
          have g1 := Own.cell O6.out 1
          have g2 := Own.cell O6.out 2
          simp only [List.getElem?_toArray, List.getElem?_cons_zero, List.getElem?_cons_succ] at g0 g1 g2
          (try simp only [Exit.inBlock, Exit.then])
          refine bodyPost_ret (v := .tuple #[.agg #[.int .i64 C, .int .i64 q, .slice va vn vc], .int .i64 0]) (by simp [results, Tryd.results32, go_sem, g0, g1, g2]) rfl ?_
          unfold NewPost
          rw [if_pos HFB.out]
          exact ⟨_, C * q, rfl, (Int.natCast_mul C q).symm, R6.out, B6.out⟩
end Go.Proofs.YtlhcehealjdbdaaDoor
