/- What is scrolled up and down again stands as it stood, but for what was pushed out: the law's walk. -/
import Derived.Test.YtlhcehealjdbdaaDoorFork
import Derived.Test.YtlhcehealjdbdaaDoorGScrollPlain
import Derived.Test.YtlhcehealjdbdaaDoorGRefRows
import Derived.Test.YtlhcehealjdbdaaDoorGFixed
import Derived.Test.YtlhcehealjdbdaaDoorGBlanks
import Derived.Deep.DeepCutAuto
namespace Go.Proofs.YtlhcehealjdbdaaDoor
open Go.RowKit
set_option linter.unusedSimpArgs false
set_option linter.unusedVariables false
attribute [local go_sem] alloc_drewN setCell_drewN


set_option maxRecDepth 10000 in
set_option maxHeartbeats 4000000 in
theorem gridscrolls_walk (c r x y m f b d l : Int) (a : Option Addr) (n cp : Nat) (xs : List Glyph) (w : World) (hl : Cells w a n xs) (hcp : n ≤ cp) (ht : Tabs w) :
    Calls Tryd.prog 9 #[.agg #[.int .i64 c, .int .i64 r, .slice a n cp], .int .i64 x, .int .i64 y, .int .i64 m, .agg #[.int .u32 f, .int .u32 b, .int .u8 d, .int .u16 l]] w (RVal (.bool true) w) := by
  obtain rfl := hl.1
  have HL := Lib.hid hl
  have HT := Lib.hid ht
  clear hl ht
  have B0 : Hid (Below w.heap.size w ((w.alloc (.cells #[.int .i64 c, .int .i64 r, .slice a xs.length cp] 49)).alloc (.cells #[.int .u32 f, .int .u32 b, .int .u8 d, .int .u16 l] 26))) := ((Below.refl _ _).alloc (Nat.le_refl _) _).alloc (by simp) _
  have G0 : Hid (Own ((w.alloc (.cells #[.int .i64 c, .int .i64 r, .slice a xs.length cp] 49)).alloc (.cells #[.int .u32 f, .int .u32 b, .int .u8 d, .int .u16 l] 26)) w.heap.size 49 #[.int .i64 c, .int .i64 r, .slice a xs.length cp]) := (Own.new w 49 _).alloc _
  have P0' : Own ((w.alloc (.cells #[.int .i64 c, .int .i64 r, .slice a xs.length cp] 49)).alloc (.cells #[.int .u32 f, .int .u32 b, .int .u8 d, .int .u16 l] 26)) (w.heap.size + 1) 26 #[.int .u32 f, .int .u32 b, .int .u8 d, .int .u16 l] := by
    have h := Own.new (w.alloc (.cells #[.int .i64 c, .int .i64 r, .slice a xs.length cp] 49)) 26 #[.int .u32 f, .int .u32 b, .int .u8 d, .int .u16 l]
    simpa using h
  have P0 := Lib.hid P0'
  have hz0 : w.heap.size + 2 ≤ ((w.alloc (.cells #[.int .i64 c, .int .i64 r, .slice a xs.length cp] 49)).alloc (.cells #[.int .u32 f, .int .u32 b, .int .u8 d, .int .u16 l] 26)).heap.size := by simp
  clear P0'
  have g0 := Own.cell G0.out 0
  have g1 := Own.cell G0.out 1
  have g2 := Own.cell G0.out 2
  simp only [List.getElem?_toArray, List.getElem?_cons_zero, List.getElem?_cons_succ] at g0 g1 g2
  go_enter Tryd.func9, Tryd.ntmps9
  go_wp2_with fail
  generalize (w.alloc (.cells #[.int .i64 c, .int .i64 r, .slice a xs.length cp] 49)).alloc (.cells #[.int .u32 f, .int .u32 b, .int .u8 d, .int .u16 l] 26) = w0 at B0 G0 P0 hz0 g0 g1 g2 ⊢
  refine (ref_rows_any c r a xs.length cp xs w0 (HL.out.below B0.out) hcp).mono ?_
  intro e w1 hp
  unfold RowsPost at hp
  obtain ⟨mb, hmb⟩ : ∃ mb, gridMay c r xs = mb := ⟨_, rfl⟩
  cases mb with
  | false =>
    rw [if_neg (by rw [hmb]; decide)] at hp
    obtain ⟨rfl, b1⟩ := hp
    have B1 : Hid (Below w.heap.size w w1) := B0.out.trans (b1.mono B0.out.size)
    have G1 := Lib.hid (G0.out.below b1 (by omega))
    have P1 := Lib.hid (P0.out.below b1 (by omega))
    have hz1 : w.heap.size + 2 ≤ w1.heap.size := Nat.le_trans hz0 b1.size
    clear b1 g0 g1 g2 hmb
    have g0 := Own.cell G1.out 0
    have g1 := Own.cell G1.out 1
    have g2 := Own.cell G1.out 2
    simp only [List.getElem?_toArray, List.getElem?_cons_zero, List.getElem?_cons_succ] at g0 g1 g2
    cases h4 : decide ((4000 : Int) < xs.length) with
    | true =>
      go_wp2_with fail
      refine (gfixed_any _ (HT.out.below B1.out)).mono ?_
      rintro e w2 ⟨rfl, b2⟩
      have B2 : Hid (Below w.heap.size w w2) := B1.out.trans (b2.mono B1.out.size)
      clear b2
      go_wp2_with fail
      go_ret
      exact ⟨rfl, B2.out⟩
    | false =>
      go_wp2_with fail
      refine (gfixed_any _ (HT.out.below B1.out)).mono ?_
      rintro e w2 ⟨rfl, b2⟩
      have B2 : Hid (Below w.heap.size w w2) := B1.out.trans (b2.mono B1.out.size)
      clear b2
      go_wp2_with fail
      go_ret
      exact ⟨rfl, B2.out⟩
  | true =>
    rw [if_pos hmb] at hp
    obtain ⟨v1, rfl, r1, b1⟩ := hp
    have B1 : Hid (Below w.heap.size w w1) := B0.out.trans (b1.mono B0.out.size)
    have G1 := Lib.hid (G0.out.below b1 (by omega))
    have P1 := Lib.hid (P0.out.below b1 (by omega))
    have hz1 : w.heap.size + 2 ≤ w1.heap.size := Nat.le_trans hz0 b1.size
    obtain ⟨C, R, rfl, rfl, hgo⟩ := gmay_iff.1 hmb
    have HGO := Lib.hid hgo
    obtain ⟨o1, o2, o3, o4, o5, o6⟩ := hgo
    rw [Int.toNat_natCast, Int.toNat_natCast] at r1
    obtain ⟨la0, lc, rfl⟩ := rows_form r1
    rw [rowsL_len] at r1 ⊢
    obtain ⟨gl, rfl, _, _, hgl, _⟩ := rows_addr r1 (by omega)
    have L1 := Lib.hid r1
    have HO5 := Lib.hid o5
    have hbnd := mul_bound o2 o4
    rw [← o5] at hbnd
    have h4 : decide ((4000 : Int) < xs.length) = false := decide_eq_false (by omega)
    clear b1 r1 hmb g0 g1 g2 o5 o6
    have g0 := Own.cell G1.out 0
    have g1 := Own.cell G1.out 1
    have g2 := Own.cell G1.out 2
    simp only [List.getElem?_toArray, List.getElem?_cons_zero, List.getElem?_cons_succ] at g0 g1 g2
    have p0 := Own.cell P1.out 0
    have p1 := Own.cell P1.out 1
    have p2 := Own.cell P1.out 2
    have p3 := Own.cell P1.out 3
    simp only [List.getElem?_toArray, List.getElem?_cons_zero, List.getElem?_cons_succ] at p0 p1 p2 p3
    obtain ⟨pb, hpb⟩ : ∃ pb, penMay f b = pb := ⟨_, rfl⟩
    have HPB := Lib.hid hpb
    clear hpb
    go_wp2_with fail
    refine (RVal.as (ref_pen_any f b d l _) (congrArg Value.bool HPB.out)).mono ?_
    rintro e w2 ⟨rfl, b2⟩
    have B2 : Hid (Below w.heap.size w w2) := B1.out.trans (b2.mono B1.out.size)
    have G2 := Lib.hid (G1.out.below b2 (by omega))
    have P2 := Lib.hid (P1.out.below b2 (by omega))
    have hz2 : w.heap.size + 2 ≤ w2.heap.size := Nat.le_trans hz1 b2.size
    have L2 := Lib.hid (L1.out.below b2)
    clear b2 g0 g1 g2 p0 p1 p2 p3
    cases pb with
    | false =>
      go_wp2_with fail
      refine (gfixed_any _ (HT.out.below B2.out)).mono ?_
      rintro e w3 ⟨rfl, b3⟩
      have B3 : Hid (Below w.heap.size w w3) := B2.out.trans (b3.mono B2.out.size)
      clear b3
      go_wp2_with fail
      go_ret
      exact ⟨rfl, B3.out⟩
    | true =>
    cases k0 : decide (x < 0) with
    | true =>
      go_wp2_with fail
      refine (gfixed_any _ (HT.out.below B2.out)).mono ?_
      rintro e w3 ⟨rfl, b3⟩
      have B3 : Hid (Below w.heap.size w w3) := B2.out.trans (b3.mono B2.out.size)
      clear b3
      go_wp2_with fail
      go_ret
      exact ⟨rfl, B3.out⟩
    | false =>
    cases k1 : decide ((R : Int) ≤ y) with
    | true =>
      go_wp2_with fail
      refine (gfixed_any _ (HT.out.below B2.out)).mono ?_
      rintro e w3 ⟨rfl, b3⟩
      have B3 : Hid (Below w.heap.size w w3) := B2.out.trans (b3.mono B2.out.size)
      clear b3
      go_wp2_with fail
      go_ret
      exact ⟨rfl, B3.out⟩
    | false =>
    cases k2 : decide (y < x) with
    | true =>
      go_wp2_with fail
      refine (gfixed_any _ (HT.out.below B2.out)).mono ?_
      rintro e w3 ⟨rfl, b3⟩
      have B3 : Hid (Below w.heap.size w w3) := B2.out.trans (b3.mono B2.out.size)
      clear b3
      go_wp2_with fail
      go_ret
      exact ⟨rfl, B3.out⟩
    | false =>
    cases k3 : decide (m < 1) with
    | true =>
      go_wp2_with fail
      refine (gfixed_any _ (HT.out.below B2.out)).mono ?_
      rintro e w3 ⟨rfl, b3⟩
      have B3 : Hid (Below w.heap.size w w3) := B2.out.trans (b3.mono B2.out.size)
      clear b3
      go_wp2_with fail
      go_ret
      exact ⟨rfl, B3.out⟩
    | false =>
    cases k4 : decide (24 < m) with
    | true =>
      go_wp2_with fail
      refine (gfixed_any _ (HT.out.below B2.out)).mono ?_
      rintro e w3 ⟨rfl, b3⟩
      have B3 : Hid (Below w.heap.size w w3) := B2.out.trans (b3.mono B2.out.size)
      clear b3
      go_wp2_with fail
      go_ret
      exact ⟨rfl, B3.out⟩
    | false =>
      go_upto_region 4 with fail
      have q0 := of_decide_eq_false k0
      have q1 := of_decide_eq_false k1
      have q2 := of_decide_eq_false k2
      have q3 := of_decide_eq_false k3
      have q4 := of_decide_eq_false k4
      clear k0 k1 k2 k3 k4 h4
      obtain ⟨T, rfl⟩ : ∃ T : Nat, x = T := ⟨x.toNat, by omega⟩
      obtain ⟨B, rfl⟩ : ∃ B : Nat, y = B := ⟨y.toNat, by omega⟩
      obtain ⟨N, rfl⟩ : ∃ N : Nat, m = N := ⟨m.toNat, by omega⟩
      obtain ⟨M, N2, hM1, hM2, hM3, hM4, hM5⟩ := scr_back HGO.out HPB.out (show T ≤ B by omega) (show B < R by omega) (show 1 ≤ N by omega)
      have hok : (gridMay C R xs && penMay f b) = true := by rw [gmay_iff.2 ⟨C, R, rfl, rfl, HGO.out⟩, HPB.out]; rfl
      have hok2 : (gridMay C R M && penMay f b) = true := by rw [gmay_iff.2 ⟨C, R, rfl, rfl, hM2⟩, HPB.out]; rfl
      have hMpos : 0 < M.length := by rw [hM2.2.2.2.2.1]; exact Nat.mul_pos (by omega) (by omega)
      have hNpos : 0 < N2.length := by rw [hM4.2.2.2.2.1]; exact Nat.mul_pos (by omega) (by omega)
      have HS1 : Hid (∀ wz : World, Cells wz a xs.length xs → Tabs wz → Calls Tryd.prog 38 #[.agg #[.int .i64 C, .int .i64 R, .slice a xs.length cp], .int .i64 T, .int .i64 B, .int .i64 N, .agg #[.int .u32 f, .int .u32 b, .int .u8 d, .int .u16 l]] wz (GG C R M wz)) := fun wz h1 h2 => by
        have k := gscroll_any C R T B N f b d l a xs.length cp xs wz h1 hcp h2
        unfold okI at k
        rw [if_pos hok, if_pos hok, hM1] at k
        exact k
      have HS2 : Hid (∀ (ma : Option Addr) (mc : Nat) (wz : World), Cells wz ma M.length M → M.length ≤ mc → Tabs wz → Calls Tryd.prog 38 #[.agg #[.int .i64 C, .int .i64 R, .slice ma M.length mc], .int .i64 T, .int .i64 B, .int .i64 (-(N : Int)), .agg #[.int .u32 f, .int .u32 b, .int .u8 d, .int .u16 l]] wz (GG C R N2 wz)) := fun ma mc wz h1 h2 h3 => by
        have k := gscroll_any C R T B (-(N : Int)) f b d l ma M.length mc M wz h1 h2 h3
        unfold okI at k
        rw [if_pos hok2, if_pos hok2, hM3] at k
        exact k
      have HN2 := Lib.hid hM4
      have HRW := Lib.hid hM5
      clear hM1 hM2 hM3 hM4 hM5 hok hok2
      have B8 : Hid (Below w.heap.size w w2.drew) := below_drewN B2.out 1
      have S8 : Hid ((w2.drew.cell? ⟨w.heap.size, 0, none⟩ = some (.int .i64 C) ∧ w2.drew.cell? ⟨w.heap.size, 1, none⟩ = some (.int .i64 R) ∧ w2.drew.cell? ⟨w.heap.size, 2, none⟩ = some (.slice a xs.length cp)) ∧ (w2.drew.cell? ⟨w.heap.size + 1, 0, none⟩ = some (.int .u32 f) ∧ w2.drew.cell? ⟨w.heap.size + 1, 1, none⟩ = some (.int .u32 b) ∧ w2.drew.cell? ⟨w.heap.size + 1, 2, none⟩ = some (.int .u8 d) ∧ w2.drew.cell? ⟨w.heap.size + 1, 3, none⟩ = some (.int .u16 l))) := ⟨⟨Own.cell G2.out 0, Own.cell G2.out 1, Own.cell G2.out 2⟩, ⟨Own.cell P2.out 0, Own.cell P2.out 1, Own.cell P2.out 2, Own.cell P2.out 3⟩⟩
      have h08 : w.heap.size ≤ w2.drew.heap.size := by have h : w2.drew.heap.size = w2.heap.size := rfl; omega
      have h18 : w.heap.size < w2.drew.heap.size := by have h : w2.drew.heap.size = w2.heap.size := rfl; omega
      have h28 : w.heap.size + 1 < w2.drew.heap.size := by have h : w2.drew.heap.size = w2.heap.size := rfl; omega
      have G8 : Hid (Own w2.drew w.heap.size 49 #[.int .i64 C, .int .i64 R, .slice a xs.length cp]) := G2.out
      have P8 : Hid (Own w2.drew (w.heap.size + 1) 26 #[.int .u32 f, .int .u32 b, .int .u8 d, .int .u16 l]) := P2.out
      have L8 : Hid (RowsAt w2.drew w0.heap.size (.slice (some ⟨gl, 0, none⟩) R lc) (rowsL C R xs)) := L2.out
      have Q8 : Hid (Below w2.drew.heap.size w2.drew w2.drew) := Below.refl _ _
      go_cut [13] (fun v wc => ∃ (hb : Nat) (na : Option Addr) (nc : Nat), v = .pointer (some ⟨hb, 0, none⟩) ∧ N2.length ≤ nc ∧ w2.drew.heap.size ≤ hb ∧ Hid (Own wc hb 49 #[.int .i64 C, .int .i64 R, .slice na N2.length nc]) ∧ Hid (Cells wc na N2.length N2) ∧ Hid (Below w2.drew.heap.size w2.drew wc))
      case first =>
        refine wp_region_fork (S := fun w' => (w'.cell? ⟨w.heap.size, 0, none⟩ = some (.int .i64 C) ∧ w'.cell? ⟨w.heap.size, 1, none⟩ = some (.int .i64 R) ∧ w'.cell? ⟨w.heap.size, 2, none⟩ = some (.slice a xs.length cp)) ∧ (w'.cell? ⟨w.heap.size + 1, 0, none⟩ = some (.int .u32 f) ∧ w'.cell? ⟨w.heap.size + 1, 1, none⟩ = some (.int .u32 b) ∧ w'.cell? ⟨w.heap.size + 1, 2, none⟩ = some (.int .u8 d) ∧ w'.cell? ⟨w.heap.size + 1, 3, none⟩ = some (.int .u16 l))) (.fork [0, 1, 2, 3, 4, 6, 7, 8, 9, 10] 5 12 (.fork [] 11 12 (.lin [(12, false), (13, false)]) (.lin [(11, false), (13, false)])) (.lin [(5, false), (11, false), (13, false)])) (by kernel_rfl) (by kernel_rfl) (fun c a d v w h => by cases d <;> exact h) S8.out ?_
        obtain ⟨w8, hw8⟩ : ∃ w8, w2.drew = w8 := ⟨_, rfl⟩
        have HW8 := Lib.hid hw8
        rw [hw8] at B8 S8 h08 h18 h28 G8 P8 L8 Q8 ⊢
        clear hw8
        refine fork_in fun Q' hQ' => ?_
        simp only [List.map_cons, List.map_nil]
        simp only [bits_, bitOf, List.getElem?_cons_zero, List.getElem?_cons_succ, List.contains_nil]
        repeat (first | (refine bits_take (v := ?_) (by rfl) ?_ ?_; rotate_left; (· intro w' hS; obtain ⟨⟨s0, s1, s2⟩, s3, s4, s5, s6⟩ := hS; go_simp; (try (go_ints; try go_simp)); with_reducible rfl); (try simp only [Act.put, List.setIfInBounds_toArray, List.set_cons_zero, List.set_cons_succ])) | (refine bits_skip (by rfl) ?_; (try simp only [Act.put, List.setIfInBounds_toArray, List.set_cons_zero, List.set_cons_succ])))
        refine bits_nil (hQ' _ _ ?_ ?_)
        all_goals clear hQ'
        all_goals simp only [bits_, bitOf, List.getElem?_cons_zero, List.getElem?_cons_succ, List.contains_nil]
        · refine eff_in (by rfl) (fun K hK => ?_)
          go_simp
          (try go_ints)
          refine (HS1.out w8 (HL.out.below (B8.out.trans (Q8.out.mono h08))) (HT.out.below (B8.out.trans (Q8.out.mono h08)))).mono ?_
          rintro e w9 ⟨v9, rfl, r9, b9⟩
          obtain ⟨ma, mc, rfl, ml⟩ := r9.cells
          have hmc : M.length ≤ mc := crow_cap r9 hMpos
          have MC9 := Lib.hid ml
          have q9 : Below w8.heap.size w8 w9 := Q8.out.trans (b9.mono Q8.out.size)
          have Q9 := Lib.hid q9
          have S9 : Hid ((w9.cell? ⟨w.heap.size, 0, none⟩ = some (.int .i64 C) ∧ w9.cell? ⟨w.heap.size, 1, none⟩ = some (.int .i64 R) ∧ w9.cell? ⟨w.heap.size, 2, none⟩ = some (.slice a xs.length cp)) ∧ (w9.cell? ⟨w.heap.size + 1, 0, none⟩ = some (.int .u32 f) ∧ w9.cell? ⟨w.heap.size + 1, 1, none⟩ = some (.int .u32 b) ∧ w9.cell? ⟨w.heap.size + 1, 2, none⟩ = some (.int .u8 d) ∧ w9.cell? ⟨w.heap.size + 1, 3, none⟩ = some (.int .u16 l))) := ⟨⟨(q9.cell (p := ⟨w.heap.size, 0, none⟩) h18).trans S8.out.1.1, (q9.cell (p := ⟨w.heap.size, 1, none⟩) h18).trans S8.out.1.2.1, (q9.cell (p := ⟨w.heap.size, 2, none⟩) h18).trans S8.out.1.2.2⟩, ⟨(q9.cell (p := ⟨w.heap.size + 1, 0, none⟩) h28).trans S8.out.2.1, (q9.cell (p := ⟨w.heap.size + 1, 1, none⟩) h28).trans S8.out.2.2.1, (q9.cell (p := ⟨w.heap.size + 1, 2, none⟩) h28).trans S8.out.2.2.2.1, (q9.cell (p := ⟨w.heap.size + 1, 3, none⟩) h28).trans S8.out.2.2.2.2⟩⟩
          clear q9
          clear b9 r9 ml
          refine hK _ _ S9.out ?_
          clear hK K
          (try simp only [Act.put, List.setIfInBounds_toArray, List.set_cons_zero, List.set_cons_succ])
          refine fork_in fun Q' hQ' => ?_
          simp only [List.map_nil]
          simp only [bits_, bitOf, List.getElem?_cons_zero, List.getElem?_cons_succ, List.contains_nil]
          refine bits_nil (hQ' _ _ ?_ ?_)
          all_goals clear hQ'
          all_goals simp only [bits_, bitOf, List.getElem?_cons_zero, List.getElem?_cons_succ, List.contains_nil]
          · refine eff_in (by rfl) (fun K hK => ?_)
            go_simp
            (try go_ints)
            refine (HS2.out ma mc w9 MC9.out hmc (HT.out.below (B8.out.trans (Q9.out.mono h08)))).mono ?_
            rintro e w10 ⟨v10, rfl, r10, b10⟩
            obtain ⟨na, nc, rfl, nl⟩ := r10.cells
            have hnc : N2.length ≤ nc := crow_cap r10 hNpos
            have NC10 := Lib.hid nl
            have RC10 := Lib.hid r10
            have q10 : Below w8.heap.size w8 w10 := Q9.out.trans (b10.mono Q9.out.size)
            have Q10 := Lib.hid q10
            have S10 : Hid ((w10.cell? ⟨w.heap.size, 0, none⟩ = some (.int .i64 C) ∧ w10.cell? ⟨w.heap.size, 1, none⟩ = some (.int .i64 R) ∧ w10.cell? ⟨w.heap.size, 2, none⟩ = some (.slice a xs.length cp)) ∧ (w10.cell? ⟨w.heap.size + 1, 0, none⟩ = some (.int .u32 f) ∧ w10.cell? ⟨w.heap.size + 1, 1, none⟩ = some (.int .u32 b) ∧ w10.cell? ⟨w.heap.size + 1, 2, none⟩ = some (.int .u8 d) ∧ w10.cell? ⟨w.heap.size + 1, 3, none⟩ = some (.int .u16 l))) := ⟨⟨(q10.cell (p := ⟨w.heap.size, 0, none⟩) h18).trans S8.out.1.1, (q10.cell (p := ⟨w.heap.size, 1, none⟩) h18).trans S8.out.1.2.1, (q10.cell (p := ⟨w.heap.size, 2, none⟩) h18).trans S8.out.1.2.2⟩, ⟨(q10.cell (p := ⟨w.heap.size + 1, 0, none⟩) h28).trans S8.out.2.1, (q10.cell (p := ⟨w.heap.size + 1, 1, none⟩) h28).trans S8.out.2.2.1, (q10.cell (p := ⟨w.heap.size + 1, 2, none⟩) h28).trans S8.out.2.2.2.1, (q10.cell (p := ⟨w.heap.size + 1, 3, none⟩) h28).trans S8.out.2.2.2.2⟩⟩
            clear q10
            clear b10 r10 nl
            refine hK _ _ S10.out ?_
            clear hK K
            (try simp only [Act.put, List.setIfInBounds_toArray, List.set_cons_zero, List.set_cons_succ])
            refine lin_in ?_
            simp only [bits_, bitOf, List.getElem?_cons_zero, List.getElem?_cons_succ, List.contains_nil]
            refine bits_eff (by rfl) (fun K hK => ?_)
            go_simp
            (try go_ints)
            have q11 : Below w8.heap.size w8 (w10.alloc (.cells #[.int .i64 0, .int .i64 0, .slice none 0 0] 49)) := Q10.out.alloc Q10.out.size _
            have A11 : Hid (Own (w10.alloc (.cells #[.int .i64 0, .int .i64 0, .slice none 0 0] 49)) w10.heap.size 49 #[.int .i64 0, .int .i64 0, .slice none 0 0]) := Own.new w10 49 _
            have u11 : Below w10.heap.size w10 (w10.alloc (.cells #[.int .i64 0, .int .i64 0, .slice none 0 0] 49)) := (Below.refl _ _).alloc (Nat.le_refl _) _
            have NC11 := Lib.hid (NC10.out.alloc (.cells #[.int .i64 0, .int .i64 0, .slice none 0 0] 49))
            have U11 := Lib.hid u11
            clear u11
            generalize hwz : w10.alloc (.cells #[.int .i64 0, .int .i64 0, .slice none 0 0] 49) = w11 at q11 A11 U11 NC11 ⊢
            clear hwz
            obtain ⟨hb, hhb⟩ : ∃ hb, w10.heap.size = hb := ⟨_, rfl⟩
            have HHB : Hid (w10.heap.size ≤ hb) := Nat.le_of_eq hhb
            have hh : w8.heap.size ≤ hb := by rw [← hhb]; exact Q10.out.size
            rw [hhb] at A11 ⊢
            clear hhb
            have Q11 := Lib.hid q11
            have S11 : Hid ((w11.cell? ⟨w.heap.size, 0, none⟩ = some (.int .i64 C) ∧ w11.cell? ⟨w.heap.size, 1, none⟩ = some (.int .i64 R) ∧ w11.cell? ⟨w.heap.size, 2, none⟩ = some (.slice a xs.length cp)) ∧ (w11.cell? ⟨w.heap.size + 1, 0, none⟩ = some (.int .u32 f) ∧ w11.cell? ⟨w.heap.size + 1, 1, none⟩ = some (.int .u32 b) ∧ w11.cell? ⟨w.heap.size + 1, 2, none⟩ = some (.int .u8 d) ∧ w11.cell? ⟨w.heap.size + 1, 3, none⟩ = some (.int .u16 l))) := ⟨⟨(q11.cell (p := ⟨w.heap.size, 0, none⟩) h18).trans S8.out.1.1, (q11.cell (p := ⟨w.heap.size, 1, none⟩) h18).trans S8.out.1.2.1, (q11.cell (p := ⟨w.heap.size, 2, none⟩) h18).trans S8.out.1.2.2⟩, ⟨(q11.cell (p := ⟨w.heap.size + 1, 0, none⟩) h28).trans S8.out.2.1, (q11.cell (p := ⟨w.heap.size + 1, 1, none⟩) h28).trans S8.out.2.2.1, (q11.cell (p := ⟨w.heap.size + 1, 2, none⟩) h28).trans S8.out.2.2.2.1, (q11.cell (p := ⟨w.heap.size + 1, 3, none⟩) h28).trans S8.out.2.2.2.2⟩⟩
            clear q11
            refine hK _ _ S11.out ?_
            clear hK K
            (try simp only [Act.put, List.setIfInBounds_toArray, List.set_cons_zero, List.set_cons_succ])
            refine bits_eff (by rfl) (fun K hK => ?_)
            refine gvstore_op _ _ rfl (c := C) (r := R) (sa := na) (sn := N2.length) (sc := nc) rfl rfl A11.out fun w12 o12 k12 => ?_
            have u12 := below_grown U11.out k12 HHB.out U11.out.size
            have NC12 := Lib.hid (NC10.out.below u12)
            clear u12
            have O12 := Lib.hid o12
            have q12 : Below w8.heap.size w8 w12 := below_grown Q11.out k12 hh Q11.out.size
            have Q12 := Lib.hid q12
            have S12 : Hid ((w12.cell? ⟨w.heap.size, 0, none⟩ = some (.int .i64 C) ∧ w12.cell? ⟨w.heap.size, 1, none⟩ = some (.int .i64 R) ∧ w12.cell? ⟨w.heap.size, 2, none⟩ = some (.slice a xs.length cp)) ∧ (w12.cell? ⟨w.heap.size + 1, 0, none⟩ = some (.int .u32 f) ∧ w12.cell? ⟨w.heap.size + 1, 1, none⟩ = some (.int .u32 b) ∧ w12.cell? ⟨w.heap.size + 1, 2, none⟩ = some (.int .u8 d) ∧ w12.cell? ⟨w.heap.size + 1, 3, none⟩ = some (.int .u16 l))) := ⟨⟨(q12.cell (p := ⟨w.heap.size, 0, none⟩) h18).trans S8.out.1.1, (q12.cell (p := ⟨w.heap.size, 1, none⟩) h18).trans S8.out.1.2.1, (q12.cell (p := ⟨w.heap.size, 2, none⟩) h18).trans S8.out.1.2.2⟩, ⟨(q12.cell (p := ⟨w.heap.size + 1, 0, none⟩) h28).trans S8.out.2.1, (q12.cell (p := ⟨w.heap.size + 1, 1, none⟩) h28).trans S8.out.2.2.1, (q12.cell (p := ⟨w.heap.size + 1, 2, none⟩) h28).trans S8.out.2.2.2.1, (q12.cell (p := ⟨w.heap.size + 1, 3, none⟩) h28).trans S8.out.2.2.2.2⟩⟩
            clear q12
            clear o12 k12
            refine hK _ _ S12.out ?_
            clear hK K
            (try simp only [Act.put])
            refine bits_nil ?_
            refine Met.intro ?_
            go_step
            go_meet
            rw [HW8.out]
            exact ⟨hb, na, nc, rfl, hnc, hh, O12, NC12, Q12⟩
          · refine eff_in (by rfl) (fun K hK => ?_)
            go_simp
            (try go_ints)
            have q10 : Below w8.heap.size w8 (w9.alloc (.cells #[.int .i64 0, .int .i64 0, .slice none 0 0] 49)) := Q9.out.alloc Q9.out.size _
            have A10 : Hid (Own (w9.alloc (.cells #[.int .i64 0, .int .i64 0, .slice none 0 0] 49)) w9.heap.size 49 #[.int .i64 0, .int .i64 0, .slice none 0 0]) := Own.new w9 49 _
            have u10 : Below w9.heap.size w9 (w9.alloc (.cells #[.int .i64 0, .int .i64 0, .slice none 0 0] 49)) := (Below.refl _ _).alloc (Nat.le_refl _) _
            have MC10 := Lib.hid (MC9.out.alloc (.cells #[.int .i64 0, .int .i64 0, .slice none 0 0] 49))
            have U10 := Lib.hid u10
            clear u10
            generalize hwz : w9.alloc (.cells #[.int .i64 0, .int .i64 0, .slice none 0 0] 49) = w10 at q10 A10 U10 MC10 ⊢
            clear hwz
            obtain ⟨hb, hhb⟩ : ∃ hb, w9.heap.size = hb := ⟨_, rfl⟩
            have HHB : Hid (w9.heap.size ≤ hb) := Nat.le_of_eq hhb
            have hh : w8.heap.size ≤ hb := by rw [← hhb]; exact Q9.out.size
            rw [hhb] at A10 ⊢
            clear hhb
            have Q10 := Lib.hid q10
            have S10 : Hid ((w10.cell? ⟨w.heap.size, 0, none⟩ = some (.int .i64 C) ∧ w10.cell? ⟨w.heap.size, 1, none⟩ = some (.int .i64 R) ∧ w10.cell? ⟨w.heap.size, 2, none⟩ = some (.slice a xs.length cp)) ∧ (w10.cell? ⟨w.heap.size + 1, 0, none⟩ = some (.int .u32 f) ∧ w10.cell? ⟨w.heap.size + 1, 1, none⟩ = some (.int .u32 b) ∧ w10.cell? ⟨w.heap.size + 1, 2, none⟩ = some (.int .u8 d) ∧ w10.cell? ⟨w.heap.size + 1, 3, none⟩ = some (.int .u16 l))) := ⟨⟨(q10.cell (p := ⟨w.heap.size, 0, none⟩) h18).trans S8.out.1.1, (q10.cell (p := ⟨w.heap.size, 1, none⟩) h18).trans S8.out.1.2.1, (q10.cell (p := ⟨w.heap.size, 2, none⟩) h18).trans S8.out.1.2.2⟩, ⟨(q10.cell (p := ⟨w.heap.size + 1, 0, none⟩) h28).trans S8.out.2.1, (q10.cell (p := ⟨w.heap.size + 1, 1, none⟩) h28).trans S8.out.2.2.1, (q10.cell (p := ⟨w.heap.size + 1, 2, none⟩) h28).trans S8.out.2.2.2.1, (q10.cell (p := ⟨w.heap.size + 1, 3, none⟩) h28).trans S8.out.2.2.2.2⟩⟩
            clear q10
            refine hK _ _ S10.out ?_
            clear hK K
            (try simp only [Act.put, List.setIfInBounds_toArray, List.set_cons_zero, List.set_cons_succ])
            refine lin_in ?_
            simp only [bits_, bitOf, List.getElem?_cons_zero, List.getElem?_cons_succ, List.contains_nil]
            refine bits_eff (by rfl) (fun K hK => ?_)
            go_simp
            (try go_ints)
            refine (HS2.out ma mc w10 MC10.out hmc (HT.out.below (B8.out.trans (Q10.out.mono h08)))).mono ?_
            rintro e w11 ⟨v11, rfl, r11, b11⟩
            obtain ⟨na, nc, rfl, nl⟩ := r11.cells
            have hnc : N2.length ≤ nc := crow_cap r11 hNpos
            have NC11 := Lib.hid nl
            have RC11 := Lib.hid r11
            have q11 : Below w8.heap.size w8 w11 := Q10.out.trans (b11.mono Q10.out.size)
            have Q11 := Lib.hid q11
            have S11 : Hid ((w11.cell? ⟨w.heap.size, 0, none⟩ = some (.int .i64 C) ∧ w11.cell? ⟨w.heap.size, 1, none⟩ = some (.int .i64 R) ∧ w11.cell? ⟨w.heap.size, 2, none⟩ = some (.slice a xs.length cp)) ∧ (w11.cell? ⟨w.heap.size + 1, 0, none⟩ = some (.int .u32 f) ∧ w11.cell? ⟨w.heap.size + 1, 1, none⟩ = some (.int .u32 b) ∧ w11.cell? ⟨w.heap.size + 1, 2, none⟩ = some (.int .u8 d) ∧ w11.cell? ⟨w.heap.size + 1, 3, none⟩ = some (.int .u16 l))) := ⟨⟨(q11.cell (p := ⟨w.heap.size, 0, none⟩) h18).trans S8.out.1.1, (q11.cell (p := ⟨w.heap.size, 1, none⟩) h18).trans S8.out.1.2.1, (q11.cell (p := ⟨w.heap.size, 2, none⟩) h18).trans S8.out.1.2.2⟩, ⟨(q11.cell (p := ⟨w.heap.size + 1, 0, none⟩) h28).trans S8.out.2.1, (q11.cell (p := ⟨w.heap.size + 1, 1, none⟩) h28).trans S8.out.2.2.1, (q11.cell (p := ⟨w.heap.size + 1, 2, none⟩) h28).trans S8.out.2.2.2.1, (q11.cell (p := ⟨w.heap.size + 1, 3, none⟩) h28).trans S8.out.2.2.2.2⟩⟩
            clear q11
            have A11 := Lib.hid (A10.out.below b11 A10.out.lt)
            have hlt : hb < w10.heap.size := A10.out.lt
            clear b11 r11 nl
            refine hK _ _ S11.out ?_
            clear hK K
            (try simp only [Act.put, List.setIfInBounds_toArray, List.set_cons_zero, List.set_cons_succ])
            refine bits_eff (by rfl) (fun K hK => ?_)
            refine gvstore_op _ _ rfl (c := C) (r := R) (sa := na) (sn := N2.length) (sc := nc) rfl rfl A11.out fun w12 o12 k12 => ?_
            have NC12 := Lib.hid (cells_of (crow_other RC11.out k12 hlt))
            have O12 := Lib.hid o12
            have q12 : Below w8.heap.size w8 w12 := below_grown Q11.out k12 hh Q11.out.size
            have Q12 := Lib.hid q12
            have S12 : Hid ((w12.cell? ⟨w.heap.size, 0, none⟩ = some (.int .i64 C) ∧ w12.cell? ⟨w.heap.size, 1, none⟩ = some (.int .i64 R) ∧ w12.cell? ⟨w.heap.size, 2, none⟩ = some (.slice a xs.length cp)) ∧ (w12.cell? ⟨w.heap.size + 1, 0, none⟩ = some (.int .u32 f) ∧ w12.cell? ⟨w.heap.size + 1, 1, none⟩ = some (.int .u32 b) ∧ w12.cell? ⟨w.heap.size + 1, 2, none⟩ = some (.int .u8 d) ∧ w12.cell? ⟨w.heap.size + 1, 3, none⟩ = some (.int .u16 l))) := ⟨⟨(q12.cell (p := ⟨w.heap.size, 0, none⟩) h18).trans S8.out.1.1, (q12.cell (p := ⟨w.heap.size, 1, none⟩) h18).trans S8.out.1.2.1, (q12.cell (p := ⟨w.heap.size, 2, none⟩) h18).trans S8.out.1.2.2⟩, ⟨(q12.cell (p := ⟨w.heap.size + 1, 0, none⟩) h28).trans S8.out.2.1, (q12.cell (p := ⟨w.heap.size + 1, 1, none⟩) h28).trans S8.out.2.2.1, (q12.cell (p := ⟨w.heap.size + 1, 2, none⟩) h28).trans S8.out.2.2.2.1, (q12.cell (p := ⟨w.heap.size + 1, 3, none⟩) h28).trans S8.out.2.2.2.2⟩⟩
            clear q12
            clear o12 k12
            refine hK _ _ S12.out ?_
            clear hK K
            (try simp only [Act.put])
            refine bits_nil ?_
            refine Met.intro ?_
            go_step
            go_meet
            rw [HW8.out]
            exact ⟨hb, na, nc, rfl, hnc, hh, O12, NC12, Q12⟩
        · refine eff_in (by rfl) (fun K hK => ?_)
          go_simp
          (try go_ints)
          have q9 : Below w8.heap.size w8 (w8.alloc (.cells #[.int .i64 0, .int .i64 0, .slice none 0 0] 49)) := Q8.out.alloc Q8.out.size _
          have A9 : Hid (Own (w8.alloc (.cells #[.int .i64 0, .int .i64 0, .slice none 0 0] 49)) w8.heap.size 49 #[.int .i64 0, .int .i64 0, .slice none 0 0]) := Own.new w8 49 _
          have u9 : Below w8.heap.size w8 (w8.alloc (.cells #[.int .i64 0, .int .i64 0, .slice none 0 0] 49)) := (Below.refl _ _).alloc (Nat.le_refl _) _
          have U9 := Lib.hid u9
          clear u9
          generalize hwz : w8.alloc (.cells #[.int .i64 0, .int .i64 0, .slice none 0 0] 49) = w9 at q9 A9 U9 ⊢
          clear hwz
          obtain ⟨hb, hhb⟩ : ∃ hb, w8.heap.size = hb := ⟨_, rfl⟩
          have HHB : Hid (w8.heap.size ≤ hb) := Nat.le_of_eq hhb
          have hh : w8.heap.size ≤ hb := by rw [← hhb]; exact Q8.out.size
          rw [hhb] at A9 ⊢
          clear hhb
          have Q9 := Lib.hid q9
          have S9 : Hid ((w9.cell? ⟨w.heap.size, 0, none⟩ = some (.int .i64 C) ∧ w9.cell? ⟨w.heap.size, 1, none⟩ = some (.int .i64 R) ∧ w9.cell? ⟨w.heap.size, 2, none⟩ = some (.slice a xs.length cp)) ∧ (w9.cell? ⟨w.heap.size + 1, 0, none⟩ = some (.int .u32 f) ∧ w9.cell? ⟨w.heap.size + 1, 1, none⟩ = some (.int .u32 b) ∧ w9.cell? ⟨w.heap.size + 1, 2, none⟩ = some (.int .u8 d) ∧ w9.cell? ⟨w.heap.size + 1, 3, none⟩ = some (.int .u16 l))) := ⟨⟨(q9.cell (p := ⟨w.heap.size, 0, none⟩) h18).trans S8.out.1.1, (q9.cell (p := ⟨w.heap.size, 1, none⟩) h18).trans S8.out.1.2.1, (q9.cell (p := ⟨w.heap.size, 2, none⟩) h18).trans S8.out.1.2.2⟩, ⟨(q9.cell (p := ⟨w.heap.size + 1, 0, none⟩) h28).trans S8.out.2.1, (q9.cell (p := ⟨w.heap.size + 1, 1, none⟩) h28).trans S8.out.2.2.1, (q9.cell (p := ⟨w.heap.size + 1, 2, none⟩) h28).trans S8.out.2.2.2.1, (q9.cell (p := ⟨w.heap.size + 1, 3, none⟩) h28).trans S8.out.2.2.2.2⟩⟩
          clear q9
          refine hK _ _ S9.out ?_
          clear hK K
          (try simp only [Act.put, List.setIfInBounds_toArray, List.set_cons_zero, List.set_cons_succ])
          refine lin_in ?_
          simp only [bits_, bitOf, List.getElem?_cons_zero, List.getElem?_cons_succ, List.contains_nil]
          refine bits_eff (by rfl) (fun K hK => ?_)
          go_simp
          (try go_ints)
          refine (HS1.out w9 (HL.out.below (B8.out.trans (Q9.out.mono h08))) (HT.out.below (B8.out.trans (Q9.out.mono h08)))).mono ?_
          rintro e w10 ⟨v10, rfl, r10, b10⟩
          obtain ⟨ma, mc, rfl, ml⟩ := r10.cells
          have hmc : M.length ≤ mc := crow_cap r10 hMpos
          have MC10 := Lib.hid ml
          have q10 : Below w8.heap.size w8 w10 := Q9.out.trans (b10.mono Q9.out.size)
          have Q10 := Lib.hid q10
          have S10 : Hid ((w10.cell? ⟨w.heap.size, 0, none⟩ = some (.int .i64 C) ∧ w10.cell? ⟨w.heap.size, 1, none⟩ = some (.int .i64 R) ∧ w10.cell? ⟨w.heap.size, 2, none⟩ = some (.slice a xs.length cp)) ∧ (w10.cell? ⟨w.heap.size + 1, 0, none⟩ = some (.int .u32 f) ∧ w10.cell? ⟨w.heap.size + 1, 1, none⟩ = some (.int .u32 b) ∧ w10.cell? ⟨w.heap.size + 1, 2, none⟩ = some (.int .u8 d) ∧ w10.cell? ⟨w.heap.size + 1, 3, none⟩ = some (.int .u16 l))) := ⟨⟨(q10.cell (p := ⟨w.heap.size, 0, none⟩) h18).trans S8.out.1.1, (q10.cell (p := ⟨w.heap.size, 1, none⟩) h18).trans S8.out.1.2.1, (q10.cell (p := ⟨w.heap.size, 2, none⟩) h18).trans S8.out.1.2.2⟩, ⟨(q10.cell (p := ⟨w.heap.size + 1, 0, none⟩) h28).trans S8.out.2.1, (q10.cell (p := ⟨w.heap.size + 1, 1, none⟩) h28).trans S8.out.2.2.1, (q10.cell (p := ⟨w.heap.size + 1, 2, none⟩) h28).trans S8.out.2.2.2.1, (q10.cell (p := ⟨w.heap.size + 1, 3, none⟩) h28).trans S8.out.2.2.2.2⟩⟩
          clear q10
          have A10 := Lib.hid (A9.out.below b10 A9.out.lt)
          clear b10 r10 ml
          refine hK _ _ S10.out ?_
          clear hK K
          (try simp only [Act.put, List.setIfInBounds_toArray, List.set_cons_zero, List.set_cons_succ])
          refine bits_eff (by rfl) (fun K hK => ?_)
          go_simp
          (try go_ints)
          refine (HS2.out ma mc w10 MC10.out hmc (HT.out.below (B8.out.trans (Q10.out.mono h08)))).mono ?_
          rintro e w11 ⟨v11, rfl, r11, b11⟩
          obtain ⟨na, nc, rfl, nl⟩ := r11.cells
          have hnc : N2.length ≤ nc := crow_cap r11 hNpos
          have NC11 := Lib.hid nl
          have RC11 := Lib.hid r11
          have q11 : Below w8.heap.size w8 w11 := Q10.out.trans (b11.mono Q10.out.size)
          have Q11 := Lib.hid q11
          have S11 : Hid ((w11.cell? ⟨w.heap.size, 0, none⟩ = some (.int .i64 C) ∧ w11.cell? ⟨w.heap.size, 1, none⟩ = some (.int .i64 R) ∧ w11.cell? ⟨w.heap.size, 2, none⟩ = some (.slice a xs.length cp)) ∧ (w11.cell? ⟨w.heap.size + 1, 0, none⟩ = some (.int .u32 f) ∧ w11.cell? ⟨w.heap.size + 1, 1, none⟩ = some (.int .u32 b) ∧ w11.cell? ⟨w.heap.size + 1, 2, none⟩ = some (.int .u8 d) ∧ w11.cell? ⟨w.heap.size + 1, 3, none⟩ = some (.int .u16 l))) := ⟨⟨(q11.cell (p := ⟨w.heap.size, 0, none⟩) h18).trans S8.out.1.1, (q11.cell (p := ⟨w.heap.size, 1, none⟩) h18).trans S8.out.1.2.1, (q11.cell (p := ⟨w.heap.size, 2, none⟩) h18).trans S8.out.1.2.2⟩, ⟨(q11.cell (p := ⟨w.heap.size + 1, 0, none⟩) h28).trans S8.out.2.1, (q11.cell (p := ⟨w.heap.size + 1, 1, none⟩) h28).trans S8.out.2.2.1, (q11.cell (p := ⟨w.heap.size + 1, 2, none⟩) h28).trans S8.out.2.2.2.1, (q11.cell (p := ⟨w.heap.size + 1, 3, none⟩) h28).trans S8.out.2.2.2.2⟩⟩
          clear q11
          have A11 := Lib.hid (A10.out.below b11 A10.out.lt)
          have hlt : hb < w10.heap.size := A10.out.lt
          clear b11 r11 nl
          refine hK _ _ S11.out ?_
          clear hK K
          (try simp only [Act.put, List.setIfInBounds_toArray, List.set_cons_zero, List.set_cons_succ])
          refine bits_eff (by rfl) (fun K hK => ?_)
          refine gvstore_op _ _ rfl (c := C) (r := R) (sa := na) (sn := N2.length) (sc := nc) rfl rfl A11.out fun w12 o12 k12 => ?_
          have NC12 := Lib.hid (cells_of (crow_other RC11.out k12 hlt))
          have O12 := Lib.hid o12
          have q12 : Below w8.heap.size w8 w12 := below_grown Q11.out k12 hh Q11.out.size
          have Q12 := Lib.hid q12
          have S12 : Hid ((w12.cell? ⟨w.heap.size, 0, none⟩ = some (.int .i64 C) ∧ w12.cell? ⟨w.heap.size, 1, none⟩ = some (.int .i64 R) ∧ w12.cell? ⟨w.heap.size, 2, none⟩ = some (.slice a xs.length cp)) ∧ (w12.cell? ⟨w.heap.size + 1, 0, none⟩ = some (.int .u32 f) ∧ w12.cell? ⟨w.heap.size + 1, 1, none⟩ = some (.int .u32 b) ∧ w12.cell? ⟨w.heap.size + 1, 2, none⟩ = some (.int .u8 d) ∧ w12.cell? ⟨w.heap.size + 1, 3, none⟩ = some (.int .u16 l))) := ⟨⟨(q12.cell (p := ⟨w.heap.size, 0, none⟩) h18).trans S8.out.1.1, (q12.cell (p := ⟨w.heap.size, 1, none⟩) h18).trans S8.out.1.2.1, (q12.cell (p := ⟨w.heap.size, 2, none⟩) h18).trans S8.out.1.2.2⟩, ⟨(q12.cell (p := ⟨w.heap.size + 1, 0, none⟩) h28).trans S8.out.2.1, (q12.cell (p := ⟨w.heap.size + 1, 1, none⟩) h28).trans S8.out.2.2.1, (q12.cell (p := ⟨w.heap.size + 1, 2, none⟩) h28).trans S8.out.2.2.2.1, (q12.cell (p := ⟨w.heap.size + 1, 3, none⟩) h28).trans S8.out.2.2.2.2⟩⟩
          clear q12
          clear o12 k12
          refine hK _ _ S12.out ?_
          clear hK K
          (try simp only [Act.put])
          refine bits_nil ?_
          refine Met.intro ?_
          go_step
          go_meet
          rw [HW8.out]
          exact ⟨hb, na, nc, rfl, hnc, hh, O12, NC12, Q12⟩
      case rest =>
        obtain ⟨hb, na, nc, rfl, hnc, hh, O9, N9, Q9⟩ := hcut
        rename World => w9
        generalize w2.drew = w8 at B8 S8 h08 h18 h28 G8 P8 L8 Q8 hh Q9
        have B9 : Hid (Below w.heap.size w w9) := B8.out.trans (Q9.out.mono h08)
        have G9 := Lib.hid (G8.out.below Q9.out h18)
        have P9 := Lib.hid (P8.out.below Q9.out h28)
        have L9 := Lib.hid (L8.out.below Q9.out)
        have hg9 : w.heap.size < w9.heap.size := G9.out.lt
        have hp9 : w.heap.size + 1 < w9.heap.size := P9.out.lt
        have hb9 : hb < w9.heap.size := O9.out.lt
        clear S8 G8 P8 L8 Q8 Q9 hh h08 h18 h28 B8
        go_wp2_with fail
        go_loopw [72] (fun v wr => ∃ q : Nat, q ≤ R ∧ v = .int .i64 q ∧ Hid (Below w9.heap.size w9 wr)) (fun v _ => R - (intOf v).toNat)
        case atStart => exact ⟨0, by omega, rfl, Below.refl _ _⟩
        case round =>
          obtain ⟨q, hq1, rfl, HR⟩ := hrel
          rename World => wr
          by_cases hq : q < R
          · have hdq : decide (q < R) = true := decide_eq_true hq
            have HQ : Hid (q < R) := hq
            have GR := Lib.hid (G9.out.below HR.out hg9)
            have PR := Lib.hid (P9.out.below HR.out hp9)
            have OR := Lib.hid (O9.out.below HR.out hb9)
            have NR := Lib.hid (N9.out.below HR.out)
            have BR : Hid (Below w.heap.size w wr) := B9.out.trans (HR.out.mono (by omega))
            have LR := Lib.hid (L9.out.below HR.out)
            have HRL : Hid ((rowOf C q xs).length = C) := row_len HO5.out hq
            obtain ⟨la', lb, hcw, hrw, _⟩ := rows_at LR.out hq
            rw [rowsL_at hq, HRL.out] at hcw hrw
            have hlc := cells_of hrw
            have XR := Lib.hid hlc
            have hqi0 : (0 : Int) ≤ (q : Int) := by omega
            have hqi1 : (q : Int) < (R : Int) := by omega
            obtain ⟨t, ht⟩ : ∃ t, decide (T ≤ q ∧ q ≤ B ∧ q < T + N) = t := ⟨_, rfl⟩
            have HTT := Lib.hid ht
            have HGN : Hid (growP C R N2 q = rowOf C q N2) := by
              unfold growP
              rw [if_pos ⟨gmay_iff.2 ⟨C, R, rfl, rfl, HN2.out⟩, by omega, by omega⟩, Int.toNat_natCast, Int.toNat_natCast]
              rfl
            have HRQ := Lib.hid (HRW.out q hq)
            clear ht hrw hlc hq
            go_upto_region 9 with fail
            go_cut [93] (fun v wc => v = .bool t ∧ wr = wc)
            case first =>
              have ht := HTT.out
              cases c1 : decide (T ≤ q) with
              | false =>
                have e1 := of_decide_eq_false c1
                obtain rfl : t = false := by rw [← ht]; exact decide_eq_false (by omega)
                clear ht e1
                go_wp2_with fail
                all_goals (go_meet; exact ⟨rfl, rfl⟩)
              | true =>
                have e1 := of_decide_eq_true c1
                cases c2 : decide (q ≤ B) with
                | false =>
                  have e2 := of_decide_eq_false c2
                  obtain rfl : t = false := by rw [← ht]; exact decide_eq_false (by omega)
                  clear ht e1 e2
                  go_wp2_with fail
                  all_goals (go_meet; exact ⟨rfl, rfl⟩)
                | true =>
                  have e2 := of_decide_eq_true c2
                  cases c3 : decide ((q : Int) < (T : Int) + (N : Int)) with
                  | false =>
                    have e3 := of_decide_eq_false c3
                    obtain rfl : t = false := by rw [← ht]; exact decide_eq_false (by omega)
                    clear ht e1 e2 e3
                    go_wp2_with fail
                    all_goals (go_meet; exact ⟨rfl, rfl⟩)
                  | true =>
                    have e3 := of_decide_eq_true c3
                    obtain rfl : t = true := by rw [← ht]; exact decide_eq_true ⟨e1, e2, by omega⟩
                    clear ht e1 e2 e3
                    go_wp2_with fail
                    all_goals (go_meet; exact ⟨rfl, rfl⟩)
            case rest =>
              obtain ⟨rfl, rfl⟩ := hcut
              cases t with
              | false =>
                have hgx : growP C R N2 q = rowOf C q xs := by rw [HGN.out, HRQ.out, if_neg (of_decide_eq_false HTT.out)]
                have HGX := Lib.hid hgx
                clear hgx
                have g0 := Own.cell OR.out 0
                have g1 := Own.cell OR.out 1
                have g2 := Own.cell OR.out 2
                simp only [List.getElem?_toArray, List.getElem?_cons_zero, List.getElem?_cons_succ] at g0 g1 g2
                go_wp2_with fail
                refine (growfn_any C R q na N2.length nc N2 _ NR.out hnc (HT.out.below BR.out)).mono ?_
                rw [HGX.out]
                rintro e w10 ⟨v10, rfl, r10, b10⟩
                obtain ⟨za, zc, rfl, zl⟩ := r10.cells
                rw [HRL.out] at zl ⊢
                have Z10 := Lib.hid zl
                have X10 := Lib.hid (XR.out.below b10)
                have Q10 : Hid (Below w9.heap.size w9 w10) := HR.out.trans (b10.mono HR.out.size)
                clear zl r10 b10 g0 g1 g2
                go_wp2_with fail
                refine (gsame_any za la' C zc C lb (rowOf C q xs) (rowOf C q xs) _ Z10.out X10.out).mono ?_
                rintro e w11 ⟨he11, q11, hq11⟩
                obtain rfl : e = .returned (.bool true) := by rw [he11, decide_eq_true rfl]
                have b11 : Below w10.heap.size w10 w11 := by rw [← hq11]; exact below_drewN (Below.refl _ _) q11
                have Q11 : Hid (Below w9.heap.size w9 w11) := Q10.out.trans (b11.mono Q10.out.size)
                clear he11 hq11 b11
                go_wp2_with fail
                go_roundw
                case rel => exact ⟨q + 1, HQ.out, by go_num, Q11⟩
                case measure => have := HQ.out; simp [intOf]; omega
              | true =>
                have hgx : growP C R N2 q = List.replicate C (blank b) := by rw [HGN.out, HRQ.out, if_pos (of_decide_eq_true HTT.out)]
                have HGX := Lib.hid hgx
                clear hgx
                have HRR : Hid ((List.replicate C (blank b)).length = C) := List.length_replicate
                have g0 := Own.cell GR.out 0
                have g1 := Own.cell GR.out 1
                have g2 := Own.cell GR.out 2
                simp only [List.getElem?_toArray, List.getElem?_cons_zero, List.getElem?_cons_succ] at g0 g1 g2
                have p0 := Own.cell PR.out 0
                have p1 := Own.cell PR.out 1
                have p2 := Own.cell PR.out 2
                have p3 := Own.cell PR.out 3
                simp only [List.getElem?_toArray, List.getElem?_cons_zero, List.getElem?_cons_succ] at p0 p1 p2 p3
                go_wp2_with fail
                refine (blanks_any C o2 f b d l _).mono ?_
                rintro e w10 ⟨v10, rfl, r10, b10⟩
                obtain ⟨la2, lb2, rfl, ll2⟩ := r10.cells
                rw [HRR.out] at ll2 ⊢
                have X10 := Lib.hid ll2
                have N10 := Lib.hid (NR.out.below b10)
                have O10 := Lib.hid (OR.out.below b10 OR.out.lt)
                have B10 : Hid (Below w.heap.size w w10) := BR.out.trans (b10.mono BR.out.size)
                have Q10 : Hid (Below w9.heap.size w9 w10) := HR.out.trans (b10.mono HR.out.size)
                clear ll2 r10 b10 g0 g1 g2 p0 p1 p2 p3
                have g0 := Own.cell O10.out 0
                have g1 := Own.cell O10.out 1
                have g2 := Own.cell O10.out 2
                simp only [List.getElem?_toArray, List.getElem?_cons_zero, List.getElem?_cons_succ] at g0 g1 g2
                go_wp2_with fail
                refine (growfn_any C R q na N2.length nc N2 _ N10.out hnc (HT.out.below B10.out)).mono ?_
                rw [HGX.out]
                rintro e w11 ⟨v11, rfl, r11, b11⟩
                obtain ⟨za, zc, rfl, zl⟩ := r11.cells
                rw [HRR.out] at zl ⊢
                have Z11 := Lib.hid zl
                have X11 := Lib.hid (X10.out.below b11)
                have Q11 : Hid (Below w9.heap.size w9 w11) := Q10.out.trans (b11.mono Q10.out.size)
                clear zl r11 b11 g0 g1 g2
                go_wp2_with fail
                refine (gsame_any za la2 C zc C lb2 (List.replicate C (blank b)) (List.replicate C (blank b)) _ Z11.out X11.out).mono ?_
                rintro e w12 ⟨he12, q12, hq12⟩
                obtain rfl : e = .returned (.bool true) := by rw [he12, decide_eq_true rfl]
                have b12 : Below w11.heap.size w11 w12 := by rw [← hq12]; exact below_drewN (Below.refl _ _) q12
                have Q12 : Hid (Below w9.heap.size w9 w12) := Q11.out.trans (b12.mono Q11.out.size)
                clear he12 hq12 b12
                go_wp2_with fail
                go_roundw
                case rel => exact ⟨q + 1, HQ.out, by go_num, Q12⟩
                case measure => have := HQ.out; simp [intOf]; omega
          · obtain rfl : q = R := by omega
            have hdq : decide (q < q) = false := decide_eq_false hq
            have B10 : Hid (Below w.heap.size w wr) := B9.out.trans (HR.out.mono (by omega))
            clear hq
            go_wp2_with fail
            refine (gfixed_any _ (HT.out.below B10.out)).mono ?_
            rintro e w11 ⟨rfl, b11⟩
            have B11 : Hid (Below w.heap.size w w11) := B10.out.trans (b11.mono B10.out.size)
            clear b11
            go_wp2_with fail
            go_ret
            exact ⟨rfl, B11.out⟩
end Go.Proofs.YtlhcehealjdbdaaDoor
