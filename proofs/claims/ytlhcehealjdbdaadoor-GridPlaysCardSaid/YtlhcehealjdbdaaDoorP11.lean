/- Part 11 of the texts that GridPlays stands on, one behind the other. -/
import Derived.Test.YtlhcehealjdbdaaDoorP10
import Derived.Deep.DeepCutAuto
/- Pieces mended: the document's walk. -/
namespace Go.Proofs.YtlhcehealjdbdaaDoor
open Go.RowKit
set_option linter.unusedSimpArgs false
set_option linter.unusedVariables false
attribute [local go_sem] alloc_drewN setCell_drewN


def mendK (ps : List Pc) (k : Nat) : List Glyph := (List.range ps.length).map fun i => if i < k then mendF ps i else g0
theorem mendK_len (ps : List Pc) (k : Nat) : (mendK ps k).length = ps.length := by simp [mendK]
theorem mendK_pt {ps : List Pc} {k i : Nat} (h : i < ps.length) : at_ (mendK ps k) i = if i < k then mendF ps i else g0 := by
  unfold at_ mendK
  rw [List.getD_eq_getElem?_getD, List.getElem?_map, List.getElem?_range h]
  rfl
theorem mendK_zero (ps : List Pc) : mendK ps 0 = List.replicate ps.length g0 := by
  refine gext (by rw [mendK_len, List.length_replicate]) fun j hj => ?_
  rw [mendK_len] at hj
  show at_ (mendK ps 0) j = at_ (List.replicate ps.length g0) j
  rw [mendK_pt hj, if_neg (by omega)]
  exact grep_at.symm
theorem mendK_all (ps : List Pc) : mendK ps ps.length = mendP ps := by
  refine gext (by rw [mendK_len, mend_len]) fun j hj => ?_
  rw [mendK_len] at hj
  show at_ (mendK ps ps.length) j = at_ (mendP ps) j
  rw [mendK_pt hj, if_pos hj, mend_pt hj]
theorem mendK_set {ps : List Pc} {k : Nat} (hk : k < ps.length) : (mendK ps k).set k (mendF ps k) = mendK ps (k + 1) := by
  refine gext (by rw [List.length_set, mendK_len, mendK_len]) fun j hj => ?_
  rw [List.length_set, mendK_len] at hj
  show at_ ((mendK ps k).set k (mendF ps k)) j = at_ (mendK ps (k + 1)) j
  rw [at_setT (by rw [mendK_len]; exact hk), mendK_pt hj, mendK_pt hj]
  by_cases h1 : j = k
  · rw [if_pos h1, if_pos (by omega), h1]
  · rw [if_neg h1]
    by_cases h2 : j < k
    · rw [if_pos h2, if_pos (by omega)]
    · rw [if_neg h2, if_neg (by omega)]
def M1 (ps : List Pc) (q : Nat) : Prop := (pat ps q).c.w = 1 ∧ (q + 1 = ps.length ∨ (pat ps (q + 1)).c.w ≠ 2 ∨ (pat ps (q + 1)).s ≠ (pat ps q).s + 1)
def M2 (ps : List Pc) (q : Nat) : Prop := (pat ps q).c.w = 2 ∧ (q = 0 ∨ (pat ps (q - 1)).c.w ≠ 1 ∨ (pat ps (q - 1)).s ≠ (pat ps q).s - 1)
instance (ps : List Pc) (q : Nat) : Decidable (M1 ps q) := by unfold M1; infer_instance
instance (ps : List Pc) (q : Nat) : Decidable (M2 ps q) := by unfold M2; infer_instance
theorem mendF_1 {ps : List Pc} {q : Nat} (h : M1 ps q) : mendF ps q = blank (pat ps q).c.b := by
  unfold M1 at h
  unfold mendF
  rw [if_neg (fun k => by have := h.1; omega), if_pos h]
theorem mendF_2 {ps : List Pc} {q : Nat} (h : M2 ps q) : mendF ps q = blank (pat ps q).c.b := by
  unfold M2 at h
  unfold mendF
  rw [if_pos h]
theorem mendF_0 {ps : List Pc} {q : Nat} (h1 : ¬ M1 ps q) (h2 : ¬ M2 ps q) : mendF ps q = (pat ps q).c := by
  unfold M1 at h1
  unfold M2 at h2
  unfold mendF
  rw [if_neg h2, if_neg h1]
def MRel (ps : List Pc) (w : World) (n k : Nat) (wr : World) : Prop := CRow wr w.heap.size (.slice (some ⟨w.heap.size, 0, none⟩) n n) (mendK ps k) ∧ Below w.heap.size w wr
def MRelX (ps : List Pc) (w : World) (n k : Nat) (d : Glyph) (wr : World) : Prop := CRow wr w.heap.size (.slice (some ⟨w.heap.size, 0, none⟩) n n) ((mendK ps k).set k d) ∧ Below w.heap.size w wr
theorem MRelX.below {ps : List Pc} {w : World} {n k : Nat} {d : Glyph} {w1 w2 : World} (h : MRelX ps w n k d w1) (b : Below w1.heap.size w1 w2) : MRelX ps w n k d w2 := ⟨h.1.below b, h.2.trans (b.mono h.2.size)⟩
set_option maxRecDepth 10000 in
set_option maxHeartbeats 4000000 in
theorem mend_any (g n c base : Nat) (ps : List Pc) (w : World) (hr : PRow w base (.slice (some ⟨g, 0, none⟩) n c) ps) (h1 : 1 ≤ n) (h8 : n ≤ 80) (hb : ∀ i, i < n → -100 ≤ (pat ps i).s ∧ (pat ps i).s ≤ 1000) : Calls Tryd.prog 71 #[.slice (some ⟨g, 0, none⟩) n c] w (GPost (mendP ps) w) := by
  have HN : Hid (ps.length = n) := prow_len hr
  have HR0 := Lib.hid hr
  have HB := Lib.hid hb
  have hgw : g < w.heap.size := (prow_at hr (k := 0) (by omega)).2.2.2
  clear hr hb
  go_enter Tryd.func71, Tryd.ntmps71
  go_wp2_with (first
    | (at_make; refine wpList_make_full _ rfl _ _ 29 rfl w.heap.size 28 _ _ 6 Tryd.underlying29 ginfoE gzeroE (by kernel_rfl) .i64 .i64 _ _ n rfl rfl rfl rfl (by rw [gbytes]; omega) (by unfold maxLen; omega) (Nat.le_refl _) ?_; intro w1 o1 g1; have R1 := Lib.hid (gmake_row o1); have B1 := Lib.hid (gbelow_none g1); clear o1 g1)
    | go_in)
  have HL0 : Hid (MRel ps w n 0 w1) := ⟨by rw [mendK_zero, HN.out]; exact R1.out, B1.out⟩
  clear R1
  go_loopw [10] (fun v wr => ∃ q : Nat, q ≤ n ∧ v = .int .i64 q ∧ Hid (MRel ps w n q wr)) (fun v _ => n - (intOf v).toNat)
  case atStart => exact ⟨0, by omega, rfl, HL0⟩
  case round =>
    obtain ⟨q, hq1, rfl, HR⟩ := hrel
    clear HL0
    by_cases hq : q < n
    · have hi0 : (0 : Int) ≤ (q : Int) := by omega
      have hi1 : (q : Int) < (n : Int) := by omega
      have HQ : Hid (q < n) := hq
      have HNX : Hid ((mendK ps q).set q (mendF ps q) = mendK ps (q + 1)) := mendK_set (by rw [HN.out]; exact hq)
      obtain ⟨p, hp⟩ : ∃ p, pat ps q = p := ⟨_, rfl⟩
      have HP := Lib.hid hp
      have HPA : Hid (∀ wz, Below w.heap.size w wz → ∀ k, k < n → PAt wz g (k * 7) (pat ps k)) := fun wz hb k hk => (prow_at HR0.out hk).1.same fun a ha => hb.cell (by omega)
      have HG : Hid (PAt wr g (q * 7) p) := by rw [← hp]; exact HPA.out wr HR.out.2 q hq
      obtain ⟨⟨e0, e1, e2, e3, e4, e5⟩, e6⟩ := HG.out
      clear hp
      go_upto_region 6 with (first
        | (refine gstore_list rfl _ _ rfl (d := p.c) rfl rfl HR.out.1 hq ?_; intro wy r5 g5; have Hwy : Hid (CRow wy w.heap.size (.slice (some ⟨w.heap.size, 0, none⟩) n n) ((mendK ps q).set q (p.c)) ∧ Below w.heap.size w wy) := ⟨(by first | exact r5 | (rw [List.set_set] at r5; exact r5)), below_grown HR.out.2 g5 (Nat.le_refl _) HR.out.2.size⟩; clear r5 g5)
        | go_in)
      (try simp only [Act.put])
      clear e0 e1 e2 e3 e4 e5 e6 HG
      have SA : Hid (PAt wy.drew g (q * 7) p ∧ ∀ k, k < n → PAt wy.drew g (k * 7) (pat ps k)) := ⟨by rw [← HP.out]; exact HPA.out wy.drew (below_drewN Hwy.out.2 1) q hq, HPA.out wy.drew (below_drewN Hwy.out.2 1)⟩
      obtain ⟨t1, ht1⟩ : ∃ t, decide (M1 ps q) = t := ⟨_, rfl⟩
      have HT := Lib.hid ht1
      clear ht1
      go_cut [59] (fun v wc => v = .bool t1 ∧ wc = wy.drew)
      case first =>
        cases hw1 : (p.c.w == 1) with
        | false =>
          refine wp_region_bits_at (S := fun w' => PAt w' g (q * 7) p) [(0, true), (1, true), (2, true), (3, true), (4, true), (5, true), (6, true), (7, true), (8, true), (9, true), (10, true), (11, true), (12, true), (13, true), (14, true), (15, true), (16, true), (17, true), (18, true), (19, true), (20, true), (21, true), (22, true), (23, true), (24, true), (25, true), (26, true), (27, true), (28, true), (29, true), (30, true), (31, true), (32, true), (33, true), (34, true), (35, true), (36, true), (37, true), (38, true)] [] (by kernel_rfl) (by kernel_rfl) (fun c a d v w h => by cases d <;> exact h) SA.out.1 ?_
          simp only [bits_, bitOf, List.getElem?_cons_zero, List.getElem?_cons_succ, List.contains_nil]
          repeat (first | (refine bits_take (v := ?_) (by rfl) ?_ ?_; rotate_left; (· intro w' hS; obtain ⟨⟨s0, s1, s2, s3, s4, s5⟩, s6⟩ := hS; go_simp; (try (go_ints; try go_simp)); with_reducible rfl); (try simp only [Act.put, List.setIfInBounds_toArray, List.set_cons_zero, List.set_cons_succ])) | (refine bits_skip (by rfl) ?_; (try simp only [Act.put, List.setIfInBounds_toArray, List.set_cons_zero, List.set_cons_succ])))
          refine bits_nil ?_
          refine Met.intro ?_
          go_step
          go_meet
          exact ⟨congrArg Value.bool (((decide_eq_false fun k => by unfold M1 at k; rw [HP.out] at k; exact absurd (beq_iff_eq.2 k.1) (by rw [hw1]; decide)).symm).trans HT.out), rfl⟩
        | true =>
          by_cases hlast : q + 1 = n
          · have hl1 : ((q : Int) == (n : Int) - 1) = true := beq_iff_eq.2 (by omega)
            have HLST := Lib.hid hlast
            clear hlast
            refine wp_region_bits_at (S := fun w' => PAt w' g (q * 7) p) [(0, true), (1, true), (2, true), (3, true), (4, true), (5, true), (6, true), (7, true), (8, true), (9, true), (10, true), (11, true), (12, true), (13, true), (14, true), (15, true), (16, true), (17, true), (18, true), (19, true), (20, true), (21, true), (22, true), (23, true), (24, true), (25, true), (26, true), (27, true), (28, true), (29, true), (30, true), (31, true), (32, true), (33, true), (34, true), (35, true), (36, true), (37, true), (38, true)] [] (by kernel_rfl) (by kernel_rfl) (fun c a d v w h => by cases d <;> exact h) SA.out.1 ?_
            simp only [bits_, bitOf, List.getElem?_cons_zero, List.getElem?_cons_succ, List.contains_nil]
            repeat (first | (refine bits_take (v := ?_) (by rfl) ?_ ?_; rotate_left; (· intro w' hS; obtain ⟨⟨s0, s1, s2, s3, s4, s5⟩, s6⟩ := hS; go_simp; (try (go_ints; try go_simp)); with_reducible rfl); (try simp only [Act.put, List.setIfInBounds_toArray, List.set_cons_zero, List.set_cons_succ])) | (refine bits_skip (by rfl) ?_; (try simp only [Act.put, List.setIfInBounds_toArray, List.set_cons_zero, List.set_cons_succ])))
            refine bits_nil ?_
            refine Met.intro ?_
            go_step
            go_meet
            exact ⟨congrArg Value.bool (((decide_eq_true ⟨by rw [HP.out]; exact eq_of_beq hw1, .inl (by rw [HN.out]; exact HLST.out)⟩).symm).trans HT.out), rfl⟩
          · have hl1 : ((q : Int) == (n : Int) - 1) = false := beq_eq_false_iff_ne.2 (by omega)
            have hi2 : (q : Int) + 1 < n := by omega
            have hi3 : (0 : Int) ≤ (q : Int) + 1 := by omega
            have hq1n : q + 1 < n := by omega
            obtain ⟨y, hy⟩ : ∃ y, pat ps (q + 1) = y := ⟨_, rfl⟩
            have HY := Lib.hid hy
            have SB : Hid (PAt wy.drew g (q * 7) p ∧ PAt wy.drew g ((q + 1) * 7) y) := ⟨SA.out.1, by rw [← hy]; exact SA.out.2 (q + 1) hq1n⟩
            have hb1 := HB.out (q + 1) hq1n
            have hb0 := HB.out q (by omega)
            rw [HP.out] at hb0
            rw [hy] at hb1
            have hlast' := Lib.hid hlast
            clear hy hlast
            cases hw2 : (y.c.w != 2) with
            | true =>
              refine wp_region_bits_at (S := fun w' => PAt w' g (q * 7) p ∧ PAt w' g ((q + 1) * 7) y) [(0, true), (1, true), (2, true), (3, true), (4, true), (5, true), (6, true), (7, true), (8, true), (9, true), (10, true), (11, true), (12, true), (13, true), (14, true), (15, true), (16, true), (17, true), (18, true), (19, true), (20, true), (21, true), (22, true), (23, true), (24, true), (25, true), (26, true), (27, true), (28, true), (29, true), (30, true), (31, true), (32, true), (33, true), (34, true), (35, true), (36, true), (37, true), (38, true)] [] (by kernel_rfl) (by kernel_rfl) (fun c a d v w h => by cases d <;> exact h) SB.out ?_
              simp only [bits_, bitOf, List.getElem?_cons_zero, List.getElem?_cons_succ, List.contains_nil]
              repeat (first | (refine bits_take (v := ?_) (by rfl) ?_ ?_; rotate_left; (· intro w' hS; obtain ⟨⟨⟨s0, s1, s2, s3, s4, s5⟩, s6⟩, ⟨t0, t1, t2, t3, t4, t5⟩, t6⟩ := hS; go_simp; (try (go_ints; try go_simp)); with_reducible rfl); (try simp only [Act.put, List.setIfInBounds_toArray, List.set_cons_zero, List.set_cons_succ])) | (refine bits_skip (by rfl) ?_; (try simp only [Act.put, List.setIfInBounds_toArray, List.set_cons_zero, List.set_cons_succ])))
              refine bits_nil ?_
              refine Met.intro ?_
              go_step
              go_meet
              exact ⟨congrArg Value.bool (((decide_eq_true ⟨by rw [HP.out]; exact eq_of_beq hw1, .inr (.inl (by rw [HY.out]; exact bne_iff_ne.1 hw2))⟩).symm).trans HT.out), rfl⟩
            | false =>
              cases hs2 : (y.s != p.s + 1) with
              | true =>
                refine wp_region_bits_at (S := fun w' => PAt w' g (q * 7) p ∧ PAt w' g ((q + 1) * 7) y) [(0, true), (1, true), (2, true), (3, true), (4, true), (5, true), (6, true), (7, true), (8, true), (9, true), (10, true), (11, true), (12, true), (13, true), (14, true), (15, true), (16, true), (17, true), (18, true), (19, true), (20, true), (21, true), (22, true), (23, true), (24, true), (25, true), (26, true), (27, true), (28, true), (29, true), (30, true), (31, true), (32, true), (33, true), (34, true), (35, true), (36, true), (37, true), (38, true)] [] (by kernel_rfl) (by kernel_rfl) (fun c a d v w h => by cases d <;> exact h) SB.out ?_
                simp only [bits_, bitOf, List.getElem?_cons_zero, List.getElem?_cons_succ, List.contains_nil]
                repeat (first | (refine bits_take (v := ?_) (by rfl) ?_ ?_; rotate_left; (· intro w' hS; obtain ⟨⟨⟨s0, s1, s2, s3, s4, s5⟩, s6⟩, ⟨t0, t1, t2, t3, t4, t5⟩, t6⟩ := hS; go_simp; (try (go_ints; try go_simp)); with_reducible rfl); (try simp only [Act.put, List.setIfInBounds_toArray, List.set_cons_zero, List.set_cons_succ])) | (refine bits_skip (by rfl) ?_; (try simp only [Act.put, List.setIfInBounds_toArray, List.set_cons_zero, List.set_cons_succ])))
                refine bits_nil ?_
                refine Met.intro ?_
                go_step
                go_meet
                exact ⟨congrArg Value.bool (((decide_eq_true ⟨by rw [HP.out]; exact eq_of_beq hw1, .inr (.inr (by rw [HY.out, HP.out]; exact bne_iff_ne.1 hs2))⟩).symm).trans HT.out), rfl⟩
              | false =>
                refine wp_region_bits_at (S := fun w' => PAt w' g (q * 7) p ∧ PAt w' g ((q + 1) * 7) y) [(0, true), (1, true), (2, true), (3, true), (4, true), (5, true), (6, true), (7, true), (8, true), (9, true), (10, true), (11, true), (12, true), (13, true), (14, true), (15, true), (16, true), (17, true), (18, true), (19, true), (20, true), (21, true), (22, true), (23, true), (24, true), (25, true), (26, true), (27, true), (28, true), (29, true), (30, true), (31, true), (32, true), (33, true), (34, true), (35, true), (36, true), (37, true), (38, true)] [] (by kernel_rfl) (by kernel_rfl) (fun c a d v w h => by cases d <;> exact h) SB.out ?_
                simp only [bits_, bitOf, List.getElem?_cons_zero, List.getElem?_cons_succ, List.contains_nil]
                repeat (first | (refine bits_take (v := ?_) (by rfl) ?_ ?_; rotate_left; (· intro w' hS; obtain ⟨⟨⟨s0, s1, s2, s3, s4, s5⟩, s6⟩, ⟨t0, t1, t2, t3, t4, t5⟩, t6⟩ := hS; go_simp; (try (go_ints; try go_simp)); with_reducible rfl); (try simp only [Act.put, List.setIfInBounds_toArray, List.set_cons_zero, List.set_cons_succ])) | (refine bits_skip (by rfl) ?_; (try simp only [Act.put, List.setIfInBounds_toArray, List.set_cons_zero, List.set_cons_succ])))
                refine bits_nil ?_
                refine Met.intro ?_
                go_step
                go_meet
                exact ⟨congrArg Value.bool (((decide_eq_false fun k => by unfold M1 at k; rw [HY.out, HP.out, HN.out] at k; rcases k.2 with k | k | k; exact hlast'.out k; exact absurd (bne_iff_ne.2 k) (by rw [hw2]; decide); exact absurd (bne_iff_ne.2 k) (by rw [hs2]; decide)).symm).trans HT.out), rfl⟩
      case rest =>
        obtain ⟨rfl, rfl⟩ := hcut
        cases t1 with
        | true =>
          have hm1 := of_decide_eq_true HT.out
          have HM := Lib.hid (mendF_1 hm1)
          have HM2 : Hid (¬ M2 ps q) := fun k => by have h1 := hm1.1; have h2 := k.1; omega
          have HWD : Hid (MRelX ps w n q p.c wy.drew) := ⟨Hwy.out.1, below_drewN Hwy.out.2 1⟩
          obtain ⟨⟨e0, e1, e2, e3, e4, e5⟩, e6⟩ := SA.out.1
          clear hm1
          go_wp2_with fail
          refine (ref_blank_any p.c.f p.c.b p.c.a p.c.l _).mono ?_
          rintro e wx ⟨rfl, bx⟩
          have HWX : Hid (MRelX ps w n q p.c wx) := HWD.out.below bx
          clear bx e0 e1 e2 e3 e4 e5 e6
          go_upto_region 8 with (first
            | (refine gstore_list rfl _ _ rfl (d := blank p.c.b) rfl rfl HWX.out.1 hq ?_; intro wz r5 g5; have Hwz : Hid (CRow wz w.heap.size (.slice (some ⟨w.heap.size, 0, none⟩) n n) ((mendK ps q).set q (blank p.c.b)) ∧ Below w.heap.size w wz) := ⟨(by first | exact r5 | (rw [List.set_set] at r5; exact r5)), below_grown HWX.out.2 g5 (Nat.le_refl _) HWX.out.2.size⟩; clear r5 g5)
            | go_in)
          (try simp only [Act.put])
          have SA : Hid (PAt wz.drew g (q * 7) p ∧ ∀ k, k < n → PAt wz.drew g (k * 7) (pat ps k)) := ⟨by rw [← HP.out]; exact HPA.out wz.drew (below_drewN Hwz.out.2 1) q hq, HPA.out wz.drew (below_drewN Hwz.out.2 1)⟩
          obtain ⟨t2, ht2⟩ : ∃ t, decide (M2 ps q) = t := ⟨_, rfl⟩
          have HT := Lib.hid ht2
          clear ht2
          go_cut [105] (fun v wc => v = .bool t2 ∧ wc = wz.drew)
          case first =>
            cases hw1 : (p.c.w == 2) with
            | false =>
              refine wp_region_bits_at (S := fun w' => PAt w' g (q * 7) p) [(0, true), (1, true), (2, true), (3, true), (4, true), (5, true), (6, true), (7, true), (8, true), (9, true), (10, true), (11, true), (12, true), (13, true), (14, true), (15, true), (16, true), (17, true), (18, true), (19, true), (20, true), (21, true), (22, true), (23, true), (24, true), (25, true), (26, true), (27, true), (28, true), (29, true), (30, true), (31, true), (32, true), (33, true), (34, true), (35, true)] [] (by kernel_rfl) (by kernel_rfl) (fun c a d v w h => by cases d <;> exact h) SA.out.1 ?_
              simp only [bits_, bitOf, List.getElem?_cons_zero, List.getElem?_cons_succ, List.contains_nil]
              repeat (first | (refine bits_take (v := ?_) (by rfl) ?_ ?_; rotate_left; (· intro w' hS; obtain ⟨⟨s0, s1, s2, s3, s4, s5⟩, s6⟩ := hS; go_simp; (try (go_ints; try go_simp)); with_reducible rfl); (try simp only [Act.put, List.setIfInBounds_toArray, List.set_cons_zero, List.set_cons_succ])) | (refine bits_skip (by rfl) ?_; (try simp only [Act.put, List.setIfInBounds_toArray, List.set_cons_zero, List.set_cons_succ])))
              refine bits_nil ?_
              refine Met.intro ?_
              go_step
              go_meet
              exact ⟨congrArg Value.bool (((decide_eq_false fun k => by unfold M2 at k; rw [HP.out] at k; exact absurd (beq_iff_eq.2 k.1) (by rw [hw1]; decide)).symm).trans HT.out), rfl⟩
            | true =>
              by_cases hlast : q = 0
              · have hl1 : ((q : Int) == 0) = true := beq_iff_eq.2 (by omega)
                have hl2 : (q == 0) = true := beq_iff_eq.2 (by omega)
                have HLST := Lib.hid hlast
                clear hlast
                refine wp_region_bits_at (S := fun w' => PAt w' g (q * 7) p) [(0, true), (1, true), (2, true), (3, true), (4, true), (5, true), (6, true), (7, true), (8, true), (9, true), (10, true), (11, true), (12, true), (13, true), (14, true), (15, true), (16, true), (17, true), (18, true), (19, true), (20, true), (21, true), (22, true), (23, true), (24, true), (25, true), (26, true), (27, true), (28, true), (29, true), (30, true), (31, true), (32, true), (33, true), (34, true), (35, true)] [] (by kernel_rfl) (by kernel_rfl) (fun c a d v w h => by cases d <;> exact h) SA.out.1 ?_
                simp only [bits_, bitOf, List.getElem?_cons_zero, List.getElem?_cons_succ, List.contains_nil]
                repeat (first | (refine bits_take (v := ?_) (by rfl) ?_ ?_; rotate_left; (· intro w' hS; obtain ⟨⟨s0, s1, s2, s3, s4, s5⟩, s6⟩ := hS; go_simp; (try (go_ints; try go_simp)); with_reducible rfl); (try simp only [Act.put, List.setIfInBounds_toArray, List.set_cons_zero, List.set_cons_succ])) | (refine bits_skip (by rfl) ?_; (try simp only [Act.put, List.setIfInBounds_toArray, List.set_cons_zero, List.set_cons_succ])))
                refine bits_nil ?_
                refine Met.intro ?_
                go_step
                go_meet
                exact ⟨congrArg Value.bool (((decide_eq_true ⟨by rw [HP.out]; exact eq_of_beq hw1, .inl HLST.out⟩).symm).trans HT.out), rfl⟩
              · have hl1 : ((q : Int) == 0) = false := beq_eq_false_iff_ne.2 (by omega)
                have hl2 : (q == 0) = false := beq_eq_false_iff_ne.2 (by omega)
                obtain ⟨k, hk⟩ : ∃ k, k = q - 1 := ⟨_, rfl⟩
                have hki : (q : Int) - 1 = k := by omega
                have hkn : k < n := by omega
                have hk0 : (0 : Int) ≤ (k : Int) := by omega
                have hk1 : (k : Int) < n := by omega
                obtain ⟨y, hy⟩ : ∃ y, pat ps k = y := ⟨_, rfl⟩
                have HY : Hid (pat ps (q - 1) = y) := by rw [← hk]; exact hy
                have SB : Hid (PAt wz.drew g (q * 7) p ∧ PAt wz.drew g (k * 7) y) := ⟨SA.out.1, by rw [← hy]; exact SA.out.2 k hkn⟩
                have hb1 := HB.out k hkn
                have hb0 := HB.out q (by omega)
                rw [HP.out] at hb0
                rw [hy] at hb1
                have hlast' := Lib.hid hlast
                clear hy hlast hk
                cases hw2 : (y.c.w != 1) with
                | true =>
                  refine wp_region_bits_at (S := fun w' => PAt w' g (q * 7) p ∧ PAt w' g (k * 7) y) [(0, true), (1, true), (2, true), (3, true), (4, true), (5, true), (6, true), (7, true), (8, true), (9, true), (10, true), (11, true), (12, true), (13, true), (14, true), (15, true), (16, true), (17, true), (18, true), (19, true), (20, true), (21, true), (22, true), (23, true), (24, true), (25, true), (26, true), (27, true), (28, true), (29, true), (30, true), (31, true), (32, true), (33, true), (34, true), (35, true)] [] (by kernel_rfl) (by kernel_rfl) (fun c a d v w h => by cases d <;> exact h) SB.out ?_
                  simp only [bits_, bitOf, List.getElem?_cons_zero, List.getElem?_cons_succ, List.contains_nil]
                  repeat (first | (refine bits_take (v := ?_) (by rfl) ?_ ?_; rotate_left; (· intro w' hS; obtain ⟨⟨⟨s0, s1, s2, s3, s4, s5⟩, s6⟩, ⟨t0, t1, t2, t3, t4, t5⟩, t6⟩ := hS; go_simp; (try (go_ints; try go_simp)); with_reducible rfl); (try simp only [Act.put, List.setIfInBounds_toArray, List.set_cons_zero, List.set_cons_succ])) | (refine bits_skip (by rfl) ?_; (try simp only [Act.put, List.setIfInBounds_toArray, List.set_cons_zero, List.set_cons_succ])))
                  refine bits_nil ?_
                  refine Met.intro ?_
                  go_step
                  go_meet
                  exact ⟨congrArg Value.bool (((decide_eq_true ⟨by rw [HP.out]; exact eq_of_beq hw1, .inr (.inl (by rw [HY.out]; exact bne_iff_ne.1 hw2))⟩).symm).trans HT.out), rfl⟩
                | false =>
                  cases hs2 : (y.s != p.s - 1) with
                  | true =>
                    refine wp_region_bits_at (S := fun w' => PAt w' g (q * 7) p ∧ PAt w' g (k * 7) y) [(0, true), (1, true), (2, true), (3, true), (4, true), (5, true), (6, true), (7, true), (8, true), (9, true), (10, true), (11, true), (12, true), (13, true), (14, true), (15, true), (16, true), (17, true), (18, true), (19, true), (20, true), (21, true), (22, true), (23, true), (24, true), (25, true), (26, true), (27, true), (28, true), (29, true), (30, true), (31, true), (32, true), (33, true), (34, true), (35, true)] [] (by kernel_rfl) (by kernel_rfl) (fun c a d v w h => by cases d <;> exact h) SB.out ?_
                    simp only [bits_, bitOf, List.getElem?_cons_zero, List.getElem?_cons_succ, List.contains_nil]
                    repeat (first | (refine bits_take (v := ?_) (by rfl) ?_ ?_; rotate_left; (· intro w' hS; obtain ⟨⟨⟨s0, s1, s2, s3, s4, s5⟩, s6⟩, ⟨t0, t1, t2, t3, t4, t5⟩, t6⟩ := hS; go_simp; (try (go_ints; try go_simp)); with_reducible rfl); (try simp only [Act.put, List.setIfInBounds_toArray, List.set_cons_zero, List.set_cons_succ])) | (refine bits_skip (by rfl) ?_; (try simp only [Act.put, List.setIfInBounds_toArray, List.set_cons_zero, List.set_cons_succ])))
                    refine bits_nil ?_
                    refine Met.intro ?_
                    go_step
                    go_meet
                    exact ⟨congrArg Value.bool (((decide_eq_true ⟨by rw [HP.out]; exact eq_of_beq hw1, .inr (.inr (by rw [HY.out, HP.out]; exact bne_iff_ne.1 hs2))⟩).symm).trans HT.out), rfl⟩
                  | false =>
                    refine wp_region_bits_at (S := fun w' => PAt w' g (q * 7) p ∧ PAt w' g (k * 7) y) [(0, true), (1, true), (2, true), (3, true), (4, true), (5, true), (6, true), (7, true), (8, true), (9, true), (10, true), (11, true), (12, true), (13, true), (14, true), (15, true), (16, true), (17, true), (18, true), (19, true), (20, true), (21, true), (22, true), (23, true), (24, true), (25, true), (26, true), (27, true), (28, true), (29, true), (30, true), (31, true), (32, true), (33, true), (34, true), (35, true)] [] (by kernel_rfl) (by kernel_rfl) (fun c a d v w h => by cases d <;> exact h) SB.out ?_
                    simp only [bits_, bitOf, List.getElem?_cons_zero, List.getElem?_cons_succ, List.contains_nil]
                    repeat (first | (refine bits_take (v := ?_) (by rfl) ?_ ?_; rotate_left; (· intro w' hS; obtain ⟨⟨⟨s0, s1, s2, s3, s4, s5⟩, s6⟩, ⟨t0, t1, t2, t3, t4, t5⟩, t6⟩ := hS; go_simp; (try (go_ints; try go_simp)); with_reducible rfl); (try simp only [Act.put, List.setIfInBounds_toArray, List.set_cons_zero, List.set_cons_succ])) | (refine bits_skip (by rfl) ?_; (try simp only [Act.put, List.setIfInBounds_toArray, List.set_cons_zero, List.set_cons_succ])))
                    refine bits_nil ?_
                    refine Met.intro ?_
                    go_step
                    go_meet
                    exact ⟨congrArg Value.bool (((decide_eq_false fun k => by unfold M2 at k; rw [HY.out, HP.out] at k; rcases k.2 with k | k | k; exact hlast'.out k; exact absurd (bne_iff_ne.2 k) (by rw [hw2]; decide); exact absurd (bne_iff_ne.2 k) (by rw [hs2]; decide)).symm).trans HT.out), rfl⟩
          case rest =>
            obtain ⟨rfl, rfl⟩ := hcut
            obtain rfl : t2 = false := HT.out.symm.trans (decide_eq_false HM2.out)
            go_wp2_with fail
            go_roundw
            case rel => exact ⟨q + 1, HQ.out, by go_num, by rw [← HNX.out, HM.out, HP.out]; exact Hwz.out.1, below_drewN Hwz.out.2 1⟩
            case measure => have := HQ.out; simp [intOf]; omega
        | false =>
          have hm1 := of_decide_eq_false HT.out
          have HM1 := Lib.hid hm1
          obtain ⟨wz, hwz⟩ : ∃ wz, wz = wy.drew := ⟨_, rfl⟩
          have Hwz : Hid (CRow wz w.heap.size (.slice (some ⟨w.heap.size, 0, none⟩) n n) ((mendK ps q).set q p.c) ∧ Below w.heap.size w wz) := by rw [hwz]; exact ⟨Hwy.out.1, below_drewN Hwy.out.2 1⟩
          rw [← hwz] at SA ⊢
          clear hwz Hwy hm1 SA
          go_upto_region 8 with fail
          have SA : Hid (PAt wz.drew g (q * 7) p ∧ ∀ k, k < n → PAt wz.drew g (k * 7) (pat ps k)) := ⟨by rw [← HP.out]; exact HPA.out wz.drew (below_drewN Hwz.out.2 1) q hq, HPA.out wz.drew (below_drewN Hwz.out.2 1)⟩
          obtain ⟨t2, ht2⟩ : ∃ t, decide (M2 ps q) = t := ⟨_, rfl⟩
          have HT := Lib.hid ht2
          clear ht2
          go_cut [105] (fun v wc => v = .bool t2 ∧ wc = wz.drew)
          case first =>
            cases hw1 : (p.c.w == 2) with
            | false =>
              refine wp_region_bits_at (S := fun w' => PAt w' g (q * 7) p) [(0, true), (1, true), (2, true), (3, true), (4, true), (5, true), (6, true), (7, true), (8, true), (9, true), (10, true), (11, true), (12, true), (13, true), (14, true), (15, true), (16, true), (17, true), (18, true), (19, true), (20, true), (21, true), (22, true), (23, true), (24, true), (25, true), (26, true), (27, true), (28, true), (29, true), (30, true), (31, true), (32, true), (33, true), (34, true), (35, true)] [] (by kernel_rfl) (by kernel_rfl) (fun c a d v w h => by cases d <;> exact h) SA.out.1 ?_
              simp only [bits_, bitOf, List.getElem?_cons_zero, List.getElem?_cons_succ, List.contains_nil]
              repeat (first | (refine bits_take (v := ?_) (by rfl) ?_ ?_; rotate_left; (· intro w' hS; obtain ⟨⟨s0, s1, s2, s3, s4, s5⟩, s6⟩ := hS; go_simp; (try (go_ints; try go_simp)); with_reducible rfl); (try simp only [Act.put, List.setIfInBounds_toArray, List.set_cons_zero, List.set_cons_succ])) | (refine bits_skip (by rfl) ?_; (try simp only [Act.put, List.setIfInBounds_toArray, List.set_cons_zero, List.set_cons_succ])))
              refine bits_nil ?_
              refine Met.intro ?_
              go_step
              go_meet
              exact ⟨congrArg Value.bool (((decide_eq_false fun k => by unfold M2 at k; rw [HP.out] at k; exact absurd (beq_iff_eq.2 k.1) (by rw [hw1]; decide)).symm).trans HT.out), rfl⟩
            | true =>
              by_cases hlast : q = 0
              · have hl1 : ((q : Int) == 0) = true := beq_iff_eq.2 (by omega)
                have hl2 : (q == 0) = true := beq_iff_eq.2 (by omega)
                have HLST := Lib.hid hlast
                clear hlast
                refine wp_region_bits_at (S := fun w' => PAt w' g (q * 7) p) [(0, true), (1, true), (2, true), (3, true), (4, true), (5, true), (6, true), (7, true), (8, true), (9, true), (10, true), (11, true), (12, true), (13, true), (14, true), (15, true), (16, true), (17, true), (18, true), (19, true), (20, true), (21, true), (22, true), (23, true), (24, true), (25, true), (26, true), (27, true), (28, true), (29, true), (30, true), (31, true), (32, true), (33, true), (34, true), (35, true)] [] (by kernel_rfl) (by kernel_rfl) (fun c a d v w h => by cases d <;> exact h) SA.out.1 ?_
                simp only [bits_, bitOf, List.getElem?_cons_zero, List.getElem?_cons_succ, List.contains_nil]
                repeat (first | (refine bits_take (v := ?_) (by rfl) ?_ ?_; rotate_left; (· intro w' hS; obtain ⟨⟨s0, s1, s2, s3, s4, s5⟩, s6⟩ := hS; go_simp; (try (go_ints; try go_simp)); with_reducible rfl); (try simp only [Act.put, List.setIfInBounds_toArray, List.set_cons_zero, List.set_cons_succ])) | (refine bits_skip (by rfl) ?_; (try simp only [Act.put, List.setIfInBounds_toArray, List.set_cons_zero, List.set_cons_succ])))
                refine bits_nil ?_
                refine Met.intro ?_
                go_step
                go_meet
                exact ⟨congrArg Value.bool (((decide_eq_true ⟨by rw [HP.out]; exact eq_of_beq hw1, .inl HLST.out⟩).symm).trans HT.out), rfl⟩
              · have hl1 : ((q : Int) == 0) = false := beq_eq_false_iff_ne.2 (by omega)
                have hl2 : (q == 0) = false := beq_eq_false_iff_ne.2 (by omega)
                obtain ⟨k, hk⟩ : ∃ k, k = q - 1 := ⟨_, rfl⟩
                have hki : (q : Int) - 1 = k := by omega
                have hkn : k < n := by omega
                have hk0 : (0 : Int) ≤ (k : Int) := by omega
                have hk1 : (k : Int) < n := by omega
                obtain ⟨y, hy⟩ : ∃ y, pat ps k = y := ⟨_, rfl⟩
                have HY : Hid (pat ps (q - 1) = y) := by rw [← hk]; exact hy
                have SB : Hid (PAt wz.drew g (q * 7) p ∧ PAt wz.drew g (k * 7) y) := ⟨SA.out.1, by rw [← hy]; exact SA.out.2 k hkn⟩
                have hb1 := HB.out k hkn
                have hb0 := HB.out q (by omega)
                rw [HP.out] at hb0
                rw [hy] at hb1
                have hlast' := Lib.hid hlast
                clear hy hlast hk
                cases hw2 : (y.c.w != 1) with
                | true =>
                  refine wp_region_bits_at (S := fun w' => PAt w' g (q * 7) p ∧ PAt w' g (k * 7) y) [(0, true), (1, true), (2, true), (3, true), (4, true), (5, true), (6, true), (7, true), (8, true), (9, true), (10, true), (11, true), (12, true), (13, true), (14, true), (15, true), (16, true), (17, true), (18, true), (19, true), (20, true), (21, true), (22, true), (23, true), (24, true), (25, true), (26, true), (27, true), (28, true), (29, true), (30, true), (31, true), (32, true), (33, true), (34, true), (35, true)] [] (by kernel_rfl) (by kernel_rfl) (fun c a d v w h => by cases d <;> exact h) SB.out ?_
                  simp only [bits_, bitOf, List.getElem?_cons_zero, List.getElem?_cons_succ, List.contains_nil]
                  repeat (first | (refine bits_take (v := ?_) (by rfl) ?_ ?_; rotate_left; (· intro w' hS; obtain ⟨⟨⟨s0, s1, s2, s3, s4, s5⟩, s6⟩, ⟨t0, t1, t2, t3, t4, t5⟩, t6⟩ := hS; go_simp; (try (go_ints; try go_simp)); with_reducible rfl); (try simp only [Act.put, List.setIfInBounds_toArray, List.set_cons_zero, List.set_cons_succ])) | (refine bits_skip (by rfl) ?_; (try simp only [Act.put, List.setIfInBounds_toArray, List.set_cons_zero, List.set_cons_succ])))
                  refine bits_nil ?_
                  refine Met.intro ?_
                  go_step
                  go_meet
                  exact ⟨congrArg Value.bool (((decide_eq_true ⟨by rw [HP.out]; exact eq_of_beq hw1, .inr (.inl (by rw [HY.out]; exact bne_iff_ne.1 hw2))⟩).symm).trans HT.out), rfl⟩
                | false =>
                  cases hs2 : (y.s != p.s - 1) with
                  | true =>
                    refine wp_region_bits_at (S := fun w' => PAt w' g (q * 7) p ∧ PAt w' g (k * 7) y) [(0, true), (1, true), (2, true), (3, true), (4, true), (5, true), (6, true), (7, true), (8, true), (9, true), (10, true), (11, true), (12, true), (13, true), (14, true), (15, true), (16, true), (17, true), (18, true), (19, true), (20, true), (21, true), (22, true), (23, true), (24, true), (25, true), (26, true), (27, true), (28, true), (29, true), (30, true), (31, true), (32, true), (33, true), (34, true), (35, true)] [] (by kernel_rfl) (by kernel_rfl) (fun c a d v w h => by cases d <;> exact h) SB.out ?_
                    simp only [bits_, bitOf, List.getElem?_cons_zero, List.getElem?_cons_succ, List.contains_nil]
                    repeat (first | (refine bits_take (v := ?_) (by rfl) ?_ ?_; rotate_left; (· intro w' hS; obtain ⟨⟨⟨s0, s1, s2, s3, s4, s5⟩, s6⟩, ⟨t0, t1, t2, t3, t4, t5⟩, t6⟩ := hS; go_simp; (try (go_ints; try go_simp)); with_reducible rfl); (try simp only [Act.put, List.setIfInBounds_toArray, List.set_cons_zero, List.set_cons_succ])) | (refine bits_skip (by rfl) ?_; (try simp only [Act.put, List.setIfInBounds_toArray, List.set_cons_zero, List.set_cons_succ])))
                    refine bits_nil ?_
                    refine Met.intro ?_
                    go_step
                    go_meet
                    exact ⟨congrArg Value.bool (((decide_eq_true ⟨by rw [HP.out]; exact eq_of_beq hw1, .inr (.inr (by rw [HY.out, HP.out]; exact bne_iff_ne.1 hs2))⟩).symm).trans HT.out), rfl⟩
                  | false =>
                    refine wp_region_bits_at (S := fun w' => PAt w' g (q * 7) p ∧ PAt w' g (k * 7) y) [(0, true), (1, true), (2, true), (3, true), (4, true), (5, true), (6, true), (7, true), (8, true), (9, true), (10, true), (11, true), (12, true), (13, true), (14, true), (15, true), (16, true), (17, true), (18, true), (19, true), (20, true), (21, true), (22, true), (23, true), (24, true), (25, true), (26, true), (27, true), (28, true), (29, true), (30, true), (31, true), (32, true), (33, true), (34, true), (35, true)] [] (by kernel_rfl) (by kernel_rfl) (fun c a d v w h => by cases d <;> exact h) SB.out ?_
                    simp only [bits_, bitOf, List.getElem?_cons_zero, List.getElem?_cons_succ, List.contains_nil]
                    repeat (first | (refine bits_take (v := ?_) (by rfl) ?_ ?_; rotate_left; (· intro w' hS; obtain ⟨⟨⟨s0, s1, s2, s3, s4, s5⟩, s6⟩, ⟨t0, t1, t2, t3, t4, t5⟩, t6⟩ := hS; go_simp; (try (go_ints; try go_simp)); with_reducible rfl); (try simp only [Act.put, List.setIfInBounds_toArray, List.set_cons_zero, List.set_cons_succ])) | (refine bits_skip (by rfl) ?_; (try simp only [Act.put, List.setIfInBounds_toArray, List.set_cons_zero, List.set_cons_succ])))
                    refine bits_nil ?_
                    refine Met.intro ?_
                    go_step
                    go_meet
                    exact ⟨congrArg Value.bool (((decide_eq_false fun k => by unfold M2 at k; rw [HY.out, HP.out] at k; rcases k.2 with k | k | k; exact hlast'.out k; exact absurd (bne_iff_ne.2 k) (by rw [hw2]; decide); exact absurd (bne_iff_ne.2 k) (by rw [hs2]; decide)).symm).trans HT.out), rfl⟩
          case rest =>
            obtain ⟨rfl, rfl⟩ := hcut
            cases t2 with
            | true =>
              have hm2 := of_decide_eq_true HT.out
              have HM := Lib.hid (mendF_2 hm2)
              have HWD : Hid (MRelX ps w n q p.c wz.drew) := ⟨Hwz.out.1, below_drewN Hwz.out.2 1⟩
              obtain ⟨⟨e0, e1, e2, e3, e4, e5⟩, e6⟩ := SA.out.1
              clear hm2
              go_wp2_with fail
              refine (ref_blank_any p.c.f p.c.b p.c.a p.c.l _).mono ?_
              rintro e wx ⟨rfl, bx⟩
              have HWX : Hid (MRelX ps w n q p.c wx) := HWD.out.below bx
              clear bx e0 e1 e2 e3 e4 e5 e6
              go_wp2_with (first
                | (refine gstore_list rfl _ _ rfl (d := blank p.c.b) rfl rfl HWX.out.1 hq ?_; intro wv r5 g5; have Hwv : Hid (CRow wv w.heap.size (.slice (some ⟨w.heap.size, 0, none⟩) n n) ((mendK ps q).set q (blank p.c.b)) ∧ Below w.heap.size w wv) := ⟨(by first | exact r5 | (rw [List.set_set] at r5; exact r5)), below_grown HWX.out.2 g5 (Nat.le_refl _) HWX.out.2.size⟩; clear r5 g5)
                | go_in)
              go_roundw
              case rel => exact ⟨q + 1, HQ.out, by go_num, by rw [← HNX.out, HM.out, HP.out]; exact Hwv.out.1, Hwv.out.2⟩
              case measure => have := HQ.out; simp [intOf]; omega
            | false =>
              have hm2 := of_decide_eq_false HT.out
              have HM := Lib.hid (mendF_0 HM1.out hm2)
              clear hm2
              go_wp2_with fail
              go_roundw
              case rel => exact ⟨q + 1, HQ.out, by go_num, by rw [← HNX.out, HM.out, HP.out]; exact Hwz.out.1, below_drewN Hwz.out.2 1⟩
              case measure => have := HQ.out; simp [intOf]; omega
    · obtain rfl : q = n := by omega
      clear hq
      go_wp2_with fail
      go_ret
      exact ⟨_, rfl, by rw [← mendK_all, HN.out]; exact HR.out.1, HR.out.2⟩
end Go.Proofs.YtlhcehealjdbdaaDoor
/- A rune put at a place, as the document says. -/
namespace Go.Proofs.YtlhcehealjdbdaaDoor
open Go.RowKit
set_option linter.unusedSimpArgs false
set_option linter.unusedVariables false
attribute [local go_sem] alloc_drewN setCell_drewN

set_option maxRecDepth 10000 in
set_option maxHeartbeats 4000000 in
theorem ref_put_any (a : Option Addr) (n c : Nat) (x r f b d l : Int) (xs : List Glyph) (w : World) (hl : Cells w a n xs) : Calls Tryd.prog 51 #[.slice a n c, .int .i64 x, .int .i32 r, .agg #[.int .u32 f, .int .u32 b, .int .u8 d, .int .u16 l]] w (GPost (putW xs x r f b d l) w) := by
  obtain rfl := hl.1
  have HL := Lib.hid hl
  clear hl
  obtain ⟨rb, hrb⟩ : ∃ rb, rowMay xs = rb := ⟨_, rfl⟩
  obtain ⟨pb, hpb⟩ : ∃ pb, penMay f b = pb := ⟨_, rfl⟩
  have HRB := Lib.hid hrb
  have HPB := Lib.hid hpb
  have HNO : Hid ((rb && pb) = false → putW xs x r f b d l = []) := fun h => by unfold putW; rw [hrb, hpb, h]; rfl
  clear hrb hpb
  have B0 : Hid (Below w.heap.size w (w.alloc (.cells #[.int .u32 f, .int .u32 b, .int .u8 d, .int .u16 l] 26))) := (Below.refl _ _).alloc (Nat.le_refl _) _
  have P0 : Hid (Own (w.alloc (.cells #[.int .u32 f, .int .u32 b, .int .u8 d, .int .u16 l] 26)) w.heap.size 26 #[.int .u32 f, .int .u32 b, .int .u8 d, .int .u16 l]) := Own.new w 26 _
  have hz0 : w.heap.size < (w.alloc (.cells #[.int .u32 f, .int .u32 b, .int .u8 d, .int .u16 l] 26)).heap.size := by simp
  go_enter Tryd.func51, Tryd.ntmps51
  go_wp2_with fail
  refine (RVal.as (ref_row_any a xs.length c xs _ (HL.out.below B0.out)) (congrArg Value.bool HRB.out)).mono ?_
  generalize w.alloc (.cells #[.int .u32 f, .int .u32 b, .int .u8 d, .int .u16 l] 26) = w0 at B0 P0 hz0 ⊢
  rintro e w1 ⟨rfl, b1⟩
  have B1 : Hid (Below w.heap.size w w1) := B0.out.trans (b1.mono B0.out.size)
  have P1 := Lib.hid (P0.out.below b1 hz0)
  have hz1 : w.heap.size < w1.heap.size := Nat.lt_of_lt_of_le hz0 b1.size
  clear b1
  have e0 := Own.cell P1.out 0
  have e1 := Own.cell P1.out 1
  have e2 := Own.cell P1.out 2
  have e3 := Own.cell P1.out 3
  simp only [List.getElem?_toArray, List.getElem?_cons_zero, List.getElem?_cons_succ] at e0 e1 e2 e3
  cases rb with
  | false =>
    have HF := Lib.hid (HNO.out rfl)
    go_wp2_with fail
    go_ret
    exact ⟨_, rfl, by rw [HF.out]; exact CRow.nil _ _, B1.out⟩
  | true =>
    go_wp2_with fail
    refine (RVal.as (ref_pen_any f b d l _) (congrArg Value.bool HPB.out)).mono ?_
    rintro e w2 ⟨rfl, b2⟩
    have B2 : Hid (Below w.heap.size w w2) := B1.out.trans (b2.mono B1.out.size)
    have P2 := Lib.hid (P1.out.below b2 hz1)
    have hz2 : w.heap.size < w2.heap.size := Nat.lt_of_lt_of_le hz1 b2.size
    clear b2 e0 e1 e2 e3
    cases pb with
    | false =>
      have HF := Lib.hid (HNO.out rfl)
      go_wp2_with fail
      go_ret
      exact ⟨_, rfl, by rw [HF.out]; exact CRow.nil _ _, B2.out⟩
    | true =>
      have hn8 := (row_iff.1 HRB.out).2.1
      have hn1 := (row_iff.1 HRB.out).1
      have HOK : Hid ((rowMay xs && penMay f b) = true) := by rw [HRB.out, HPB.out]; rfl
      clear HNO B0 P0 hz0 B1 P1 hz1
      obtain ⟨wd, hwd⟩ : ∃ wd, width r = wd := ⟨_, rfl⟩
      have hwo := width_or r
      rw [hwd] at hwo
      have HWD := Lib.hid hwd
      clear hwd
      go_wp2_with fail
      refine (ref_width_any r _).mono ?_
      rintro e w2' ⟨rfl, rfl⟩
      rw [HWD.out]
      go_wp2_with fail
      refine (pieces_any _ xs.length c xs _ (HL.out.below B2.out) hn1 hn8).mono ?_
      rintro e w3 ⟨v3, rfl, r3, b3⟩
      obtain ⟨pa, pc, rfl⟩ := prow_form r3
      rw [pieces_len] at r3 ⊢
      obtain ⟨g, rfl⟩ := prow_addr r3 (by omega)
      have R3 : Hid (PRow w3 w2.heap.size (.slice (some ⟨g, 0, none⟩) xs.length pc) (piecesP xs)) := r3
      have B3 : Hid (Below w.heap.size w w3) := B2.out.trans (b3.mono B2.out.size)
      have P3 := Lib.hid (P2.out.below b3 hz2)
      have hz3 : w.heap.size < w3.heap.size := Nat.lt_of_lt_of_le hz2 b3.size
      have hbg : w2.heap.size ≤ g := (prow_at R3.out (k := 0) (by omega)).2.1
      have hgw : g < w3.heap.size := (prow_at R3.out (k := 0) (by omega)).2.2.2
      have hne : some w.heap.size ≠ some g := fun e => by injection e with e; omega
      have hpcn : xs.length ≤ pc := (prow_own R3.out).choose_spec.2.2
      clear r3 b3
      have HS : Hid (PRow w3 w2.heap.size (.slice (some ⟨g, 0, none⟩) xs.length pc) (piecesP xs) ∧ Own w3 w.heap.size 26 #[.int .u32 f, .int .u32 b, .int .u8 d, .int .u16 l] ∧ Below w.heap.size w w3) := ⟨R3.out, P3.out, B3.out⟩
      clear R3 B3
      have e0 := Own.cell P3.out 0
      have e1 := Own.cell P3.out 1
      have e2 := Own.cell P3.out 2
      have e3 := Own.cell P3.out 3
      simp only [List.getElem?_toArray, List.getElem?_cons_zero, List.getElem?_cons_succ] at e0 e1 e2 e3
      clear P3
      by_cases c1 : 0 ≤ x ∧ x < xs.length ∧ wd = 1
      · obtain ⟨q0, q1, rfl⟩ := c1
        obtain ⟨k, rfl⟩ : ∃ k : Nat, x = k := ⟨x.toNat, by omega⟩
        have hk : k < xs.length := by omega
        have hd0 : decide ((0 : Int) ≤ (k : Int)) = true := decide_eq_true q0
        have hd1 : decide (k < xs.length) = true := decide_eq_true hk
        have hd2 : decide ((k : Int) < xs.length) = true := decide_eq_true q1
        have HF : Hid (putW xs k r f b d l = mendP ((piecesP xs).set k ⟨⟨r, 0, f, b, d, l⟩, -10⟩)) := by
          unfold putW putPc
          rw [HOK.out, if_pos rfl, if_pos ⟨q0, q1, HWD.out⟩, Int.toNat_natCast]
          rfl
        have HBB : Hid (∀ i, i < xs.length → -100 ≤ (pat ((piecesP xs).set k ⟨⟨r, 0, f, b, d, l⟩, -10⟩) i).s ∧ (pat ((piecesP xs).set k ⟨⟨r, 0, f, b, d, l⟩, -10⟩) i).s ≤ 1000) := bound_set (pieces_len xs) hk (by show -100 ≤ (-10 : Int) ∧ (-10 : Int) ≤ 1000; omega) (bound_pieces hn8)
        cases hd3 : decide ((k : Int) < (xs.length : Int) - 1) with
        | true =>
          go_upto_region 10 with (first
            | (refine pstore_list rfl _ _ rfl (d := ⟨⟨r, 0, f, b, d, l⟩, -10⟩) (k := k) rfl rfl HS.out.1 (by omega) ?_; intro w5 r5 g5; have Hw5 : Hid (PRow w5 w2.heap.size (.slice (some ⟨g, 0, none⟩) xs.length pc) ((piecesP xs).set k ⟨⟨r, 0, f, b, d, l⟩, -10⟩) ∧ Own w5 w.heap.size 26 #[.int .u32 f, .int .u32 b, .int .u8 d, .int .u16 l] ∧ Below w.heap.size w w5) := ⟨r5, HS.out.2.1.grown g5 hne, below_grown HS.out.2.2 g5 (by omega) HS.out.2.2.size⟩; clear r5 g5)
            | go_in)
          go_wp2_with fail
          refine (mend_any g xs.length pc _ ((piecesP xs).set k ⟨⟨r, 0, f, b, d, l⟩, -10⟩) _ Hw5.out.1 (by omega) hn8 HBB.out).mono ?_
          rintro e w8 ⟨v8, rfl, r8, b8⟩
          have R8 := Lib.hid r8
          have B8 := Lib.hid b8
          clear r8 b8
          go_wp2_with fail
          go_ret
          exact ⟨_, rfl, by rw [HF.out]; exact R8.out.up Hw5.out.2.2.size, Hw5.out.2.2.trans (B8.out.mono Hw5.out.2.2.size)⟩
        | false =>
          go_upto_region 10 with (first
            | (refine pstore_list rfl _ _ rfl (d := ⟨⟨r, 0, f, b, d, l⟩, -10⟩) (k := k) rfl rfl HS.out.1 (by omega) ?_; intro w5 r5 g5; have Hw5 : Hid (PRow w5 w2.heap.size (.slice (some ⟨g, 0, none⟩) xs.length pc) ((piecesP xs).set k ⟨⟨r, 0, f, b, d, l⟩, -10⟩) ∧ Own w5 w.heap.size 26 #[.int .u32 f, .int .u32 b, .int .u8 d, .int .u16 l] ∧ Below w.heap.size w w5) := ⟨r5, HS.out.2.1.grown g5 hne, below_grown HS.out.2.2 g5 (by omega) HS.out.2.2.size⟩; clear r5 g5)
            | go_in)
          go_wp2_with fail
          refine (mend_any g xs.length pc _ ((piecesP xs).set k ⟨⟨r, 0, f, b, d, l⟩, -10⟩) _ Hw5.out.1 (by omega) hn8 HBB.out).mono ?_
          rintro e w8 ⟨v8, rfl, r8, b8⟩
          have R8 := Lib.hid r8
          have B8 := Lib.hid b8
          clear r8 b8
          go_wp2_with fail
          go_ret
          exact ⟨_, rfl, by rw [HF.out]; exact R8.out.up Hw5.out.2.2.size, Hw5.out.2.2.trans (B8.out.mono Hw5.out.2.2.size)⟩
      · by_cases c2 : 0 ≤ x ∧ x < (xs.length : Int) - 1 ∧ wd = 2
        · obtain ⟨q0, q1, rfl⟩ := c2
          obtain ⟨k, rfl⟩ : ∃ k : Nat, x = k := ⟨x.toNat, by omega⟩
          have hk : k < xs.length := by omega
          have hk2 : k + 1 < xs.length := by omega
          have hi1 : (k : Int) + 1 < xs.length := by omega
          have hi0 : (0 : Int) ≤ (k : Int) + 1 := by omega
          have hd0 : decide ((0 : Int) ≤ (k : Int)) = true := decide_eq_true q0
          have hd1 : decide (k < xs.length) = true := decide_eq_true hk
          have hd2 : decide ((k : Int) < xs.length) = true := decide_eq_true (by omega)
          have hd3 : decide ((k : Int) < (xs.length : Int) - 1) = true := decide_eq_true q1
          have HF : Hid (putW xs k r f b d l = mendP (((piecesP xs).set k ⟨⟨r, 1, f, b, d, l⟩, -10⟩).set (k + 1) ⟨⟨0, 2, f, b, d, l⟩, -9⟩)) := by
            unfold putW putPc
            rw [HOK.out, if_pos rfl, if_neg (fun h => by have := h.2.2; rw [HWD.out] at this; omega), if_pos ⟨q0, q1, HWD.out⟩, Int.toNat_natCast]
            rfl
          have HBB : Hid (∀ i, i < xs.length → -100 ≤ (pat (((piecesP xs).set k ⟨⟨r, 1, f, b, d, l⟩, -10⟩).set (k + 1) ⟨⟨0, 2, f, b, d, l⟩, -9⟩) i).s ∧ (pat (((piecesP xs).set k ⟨⟨r, 1, f, b, d, l⟩, -10⟩).set (k + 1) ⟨⟨0, 2, f, b, d, l⟩, -9⟩) i).s ≤ 1000) := bound_set (by rw [List.length_set, pieces_len]) hk2 (by show -100 ≤ (-9 : Int) ∧ (-9 : Int) ≤ 1000; omega) (bound_set (pieces_len xs) hk (by show -100 ≤ (-10 : Int) ∧ (-10 : Int) ≤ 1000; omega) (bound_pieces hn8))
          go_upto_region 9 with (first
            | (refine pstore_list rfl _ _ rfl (d := ⟨⟨r, 1, f, b, d, l⟩, -10⟩) (k := k) rfl rfl HS.out.1 (by omega) ?_; intro w5 r5 g5; have Hw5 : Hid (PRow w5 w2.heap.size (.slice (some ⟨g, 0, none⟩) xs.length pc) ((piecesP xs).set k ⟨⟨r, 1, f, b, d, l⟩, -10⟩) ∧ Own w5 w.heap.size 26 #[.int .u32 f, .int .u32 b, .int .u8 d, .int .u16 l] ∧ Below w.heap.size w w5) := ⟨r5, HS.out.2.1.grown g5 hne, below_grown HS.out.2.2 g5 (by omega) HS.out.2.2.size⟩; clear r5 g5)
            | go_in)
          clear e0 e1 e2 e3
          have e0 := Own.cell Hw5.out.2.1 0
          have e1 := Own.cell Hw5.out.2.1 1
          have e2 := Own.cell Hw5.out.2.1 2
          have e3 := Own.cell Hw5.out.2.1 3
          simp only [List.getElem?_toArray, List.getElem?_cons_zero, List.getElem?_cons_succ] at e0 e1 e2 e3
          go_upto_region 10 with (first
            | (refine pstore_list rfl _ _ rfl (d := ⟨⟨0, 2, f, b, d, l⟩, -9⟩) (k := k + 1) rfl rfl Hw5.out.1 (by omega) ?_; intro w6 r5 g5; have Hw6 : Hid (PRow w6 w2.heap.size (.slice (some ⟨g, 0, none⟩) xs.length pc) (((piecesP xs).set k ⟨⟨r, 1, f, b, d, l⟩, -10⟩).set (k + 1) ⟨⟨0, 2, f, b, d, l⟩, -9⟩) ∧ Own w6 w.heap.size 26 #[.int .u32 f, .int .u32 b, .int .u8 d, .int .u16 l] ∧ Below w.heap.size w w6) := ⟨r5, Hw5.out.2.1.grown g5 hne, below_grown Hw5.out.2.2 g5 (by omega) Hw5.out.2.2.size⟩; clear r5 g5)
            | go_in)
          go_wp2_with fail
          refine (mend_any g xs.length pc _ (((piecesP xs).set k ⟨⟨r, 1, f, b, d, l⟩, -10⟩).set (k + 1) ⟨⟨0, 2, f, b, d, l⟩, -9⟩) _ Hw6.out.1 (by omega) hn8 HBB.out).mono ?_
          rintro e w8 ⟨v8, rfl, r8, b8⟩
          have R8 := Lib.hid r8
          have B8 := Lib.hid b8
          clear r8 b8
          go_wp2_with fail
          go_ret
          exact ⟨_, rfl, by rw [HF.out]; exact R8.out.up Hw6.out.2.2.size, Hw6.out.2.2.trans (B8.out.mono Hw6.out.2.2.size)⟩
        · have HF : Hid (putW xs x r f b d l = mendP (piecesP xs)) := by
            unfold putW putPc
            rw [HOK.out, if_pos rfl, HWD.out, if_neg c1, if_neg c2]
            rfl
          have HBB : Hid (∀ i, i < xs.length → -100 ≤ (pat (piecesP xs) i).s ∧ (pat (piecesP xs) i).s ≤ 1000) := bound_pieces hn8
          go_upto_region 5 with fail
          go_cut [34] (fun v wc => v = .bool false ∧ wc = w3)
          case first =>
            cases hd0 : decide ((0 : Int) ≤ x) with
            | false =>
              go_wp2_with fail
              go_meet
              exact ⟨rfl, rfl⟩
            | true =>
              cases hd1 : decide (x < (xs.length : Int)) with
              | false =>
                go_wp2_with fail
                go_meet
                exact ⟨rfl, rfl⟩
              | true =>
                have hw1 : (wd == 1) = false := beq_eq_false_iff_ne.2 (fun e => c1 ⟨of_decide_eq_true hd0, of_decide_eq_true hd1, e⟩)
                go_wp2_with fail
                go_meet
                exact ⟨rfl, rfl⟩
          case rest =>
            obtain ⟨rfl, rfl⟩ := hcut
            go_upto_region 7 with fail
            go_cut [54] (fun v wd => v = .bool false ∧ wd = wc)
            case first =>
              cases hd0 : decide ((0 : Int) ≤ x) with
              | false =>
                go_wp2_with fail
                go_meet
                exact ⟨rfl, rfl⟩
              | true =>
                cases hd1 : decide (x < (xs.length : Int) - 1) with
                | false =>
                  go_wp2_with fail
                  go_meet
                  exact ⟨rfl, rfl⟩
                | true =>
                  have hw1 : (wd == 2) = false := beq_eq_false_iff_ne.2 (fun e => c2 ⟨of_decide_eq_true hd0, of_decide_eq_true hd1, e⟩)
                  go_wp2_with fail
                  go_meet
                  exact ⟨rfl, rfl⟩
            case rest =>
              obtain ⟨rfl, rfl⟩ := hcut
              go_wp2_with fail
              refine (mend_any g xs.length pc _ (piecesP xs) _ HS.out.1 (by omega) hn8 HBB.out).mono ?_
              rintro e w8 ⟨v8, rfl, r8, b8⟩
              have R8 := Lib.hid r8
              have B8 := Lib.hid b8
              clear r8 b8
              go_wp2_with fail
              go_ret
              exact ⟨_, rfl, by rw [HF.out]; exact R8.out.up HS.out.2.2.size, HS.out.2.2.trans (B8.out.mono HS.out.2.2.size)⟩
end Go.Proofs.YtlhcehealjdbdaaDoor
/- Blanks put in at a place, as the document says. -/
namespace Go.Proofs.YtlhcehealjdbdaaDoor
open Go.RowKit
set_option linter.unusedSimpArgs false
set_option linter.unusedVariables false
attribute [local go_sem] alloc_drewN setCell_drewN

set_option maxRecDepth 10000 in
set_option maxHeartbeats 4000000 in
theorem ref_insert_any (a : Option Addr) (n c : Nat) (x m f b d l : Int) (xs : List Glyph) (w : World) (hl : Cells w a n xs) : Calls Tryd.prog 53 #[.slice a n c, .int .i64 x, .int .i64 m, .agg #[.int .u32 f, .int .u32 b, .int .u8 d, .int .u16 l]] w (GPost (insertW xs x m f b) w) := by
  obtain rfl := hl.1
  have HL := Lib.hid hl
  clear hl
  obtain ⟨rb, hrb⟩ : ∃ rb, rowMay xs = rb := ⟨_, rfl⟩
  obtain ⟨pb, hpb⟩ : ∃ pb, penMay f b = pb := ⟨_, rfl⟩
  have HRB := Lib.hid hrb
  have HPB := Lib.hid hpb
  have HNO : Hid ((rb && pb) = false → insertW xs x m f b = []) := fun h => by unfold insertW; rw [hrb, hpb, h]; rfl
  clear hrb hpb
  have B0 : Hid (Below w.heap.size w (w.alloc (.cells #[.int .u32 f, .int .u32 b, .int .u8 d, .int .u16 l] 26))) := (Below.refl _ _).alloc (Nat.le_refl _) _
  have P0 : Hid (Own (w.alloc (.cells #[.int .u32 f, .int .u32 b, .int .u8 d, .int .u16 l] 26)) w.heap.size 26 #[.int .u32 f, .int .u32 b, .int .u8 d, .int .u16 l]) := Own.new w 26 _
  have hz0 : w.heap.size < (w.alloc (.cells #[.int .u32 f, .int .u32 b, .int .u8 d, .int .u16 l] 26)).heap.size := by simp
  go_enter Tryd.func53, Tryd.ntmps53
  go_wp2_with fail
  refine (RVal.as (ref_row_any a xs.length c xs _ (HL.out.below B0.out)) (congrArg Value.bool HRB.out)).mono ?_
  generalize w.alloc (.cells #[.int .u32 f, .int .u32 b, .int .u8 d, .int .u16 l] 26) = w0 at B0 P0 hz0 ⊢
  rintro e w1 ⟨rfl, b1⟩
  have B1 : Hid (Below w.heap.size w w1) := B0.out.trans (b1.mono B0.out.size)
  have P1 := Lib.hid (P0.out.below b1 hz0)
  have hz1 : w.heap.size < w1.heap.size := Nat.lt_of_lt_of_le hz0 b1.size
  clear b1
  have e0 := Own.cell P1.out 0
  have e1 := Own.cell P1.out 1
  have e2 := Own.cell P1.out 2
  have e3 := Own.cell P1.out 3
  simp only [List.getElem?_toArray, List.getElem?_cons_zero, List.getElem?_cons_succ] at e0 e1 e2 e3
  cases rb with
  | false =>
    have HF := Lib.hid (HNO.out rfl)
    go_wp2_with fail
    go_ret
    exact ⟨_, rfl, by rw [HF.out]; exact CRow.nil _ _, B1.out⟩
  | true =>
    go_wp2_with fail
    refine (RVal.as (ref_pen_any f b d l _) (congrArg Value.bool HPB.out)).mono ?_
    rintro e w2 ⟨rfl, b2⟩
    have B2 : Hid (Below w.heap.size w w2) := B1.out.trans (b2.mono B1.out.size)
    have P2 := Lib.hid (P1.out.below b2 hz1)
    have hz2 : w.heap.size < w2.heap.size := Nat.lt_of_lt_of_le hz1 b2.size
    clear b2 e0 e1 e2 e3
    cases pb with
    | false =>
      have HF := Lib.hid (HNO.out rfl)
      go_wp2_with fail
      go_ret
      exact ⟨_, rfl, by rw [HF.out]; exact CRow.nil _ _, B2.out⟩
    | true =>
      have hn8 := (row_iff.1 HRB.out).2.1
      have hn1 := (row_iff.1 HRB.out).1
      have HOK : Hid ((rowMay xs && penMay f b) = true) := by rw [HRB.out, HPB.out]; rfl
      clear HNO B0 P0 hz0 B1 P1 hz1
      obtain ⟨bl, off, rfl, hbl, _⟩ := HL.out.2.2 (by omega)
      have HSAME : Hid ((x < 0 ∨ xs.length ≤ x ∨ m < 1) → insertW xs x m f b = xs) := fun h => by unfold insertW; rw [HOK.out, if_pos rfl, if_pos h]
      have HX2 : Hid (Cells w2 (some ⟨bl, off, none⟩) xs.length xs) := HL.out.below B2.out
      cases hx0 : decide (x < 0) with
      | true =>
        have HF := Lib.hid (HSAME.out (.inl (of_decide_eq_true hx0)))
        go_wp2_with (first
          | (at_builtin; refine gapp_in rfl _ _ rfl rfl (gempty_row w2) rfl (HX2.out.alloc _) (by omega) (by simp) ?_; intro v1 w1 r1 b1)
          | go_in)
        go_ret
        exact ⟨_, rfl, by rw [HF.out]; exact CRow.up r1 B2.out.size, B2.out.trans ((((Below.refl _ _).alloc (Nat.le_refl _) _).trans b1).mono B2.out.size)⟩
      | false =>
        cases hx1 : decide ((xs.length : Int) ≤ x) with
        | true =>
          have HF := Lib.hid (HSAME.out (.inr (.inl (of_decide_eq_true hx1))))
          go_wp2_with (first
            | (at_builtin; refine gapp_in rfl _ _ rfl rfl (gempty_row w2) rfl (HX2.out.alloc _) (by omega) (by simp) ?_; intro v1 w1 r1 b1)
            | go_in)
          go_ret
          exact ⟨_, rfl, by rw [HF.out]; exact CRow.up r1 B2.out.size, B2.out.trans ((((Below.refl _ _).alloc (Nat.le_refl _) _).trans b1).mono B2.out.size)⟩
        | false =>
          cases hm1 : decide (m < 1) with
          | true =>
            have HF := Lib.hid (HSAME.out (.inr (.inr (of_decide_eq_true hm1))))
            go_wp2_with (first
              | (at_builtin; refine gapp_in rfl _ _ rfl rfl (gempty_row w2) rfl (HX2.out.alloc _) (by omega) (by simp) ?_; intro v1 w1 r1 b1)
              | go_in)
            go_ret
            exact ⟨_, rfl, by rw [HF.out]; exact CRow.up r1 B2.out.size, B2.out.trans ((((Below.refl _ _).alloc (Nat.le_refl _) _).trans b1).mono B2.out.size)⟩
          | false =>
            have q0 := of_decide_eq_false hx0
            have q1 := of_decide_eq_false hx1
            have q2 := of_decide_eq_false hm1
            obtain ⟨k, rfl⟩ : ∃ k : Nat, x = k := ⟨x.toNat, by omega⟩
            have hkn : k < xs.length := by omega
            obtain ⟨j, hj⟩ : ∃ j : Nat, min m ((xs.length : Int) - k) = j := ⟨(min m ((xs.length : Int) - k)).toNat, by omega⟩
            have HJ := Lib.hid hj
            have hj1 : 1 ≤ j := by omega
            have hj2 : k + j ≤ xs.length := by omega
            have hjm : (j : Int) ≤ m := by omega
            have hjo : m = j ∨ k + j = xs.length := by omega
            have hkp : (k : Int) ≤ xs.length := by omega
            clear hj
            have HF : Hid (insertW xs k m f b = mendP (insertPc xs k m b)) := by unfold insertW; rw [HOK.out, if_pos rfl, if_neg (by omega)]; rfl
            go_upto_region 5 with fail
            clear q0 q1 q2 hx0 hx1 hm1
            go_wp2_with fail
            refine (pieces_any _ xs.length c xs _ (HL.out.below B2.out) hn1 hn8).mono ?_
            rintro e w3 ⟨v3, rfl, r3, b3⟩
            obtain ⟨pa, pc, rfl⟩ := prow_form r3
            rw [pieces_len] at r3 ⊢
            obtain ⟨g, rfl⟩ := prow_addr r3 (by omega)
            have R3 : Hid (PRow w3 w2.heap.size (.slice (some ⟨g, 0, none⟩) xs.length pc) (piecesP xs)) := r3
            have B3 : Hid (Below w.heap.size w w3) := B2.out.trans (b3.mono B2.out.size)
            have P3 := Lib.hid (P2.out.below b3 hz2)
            have hz3 : w.heap.size < w3.heap.size := Nat.lt_of_lt_of_le hz2 b3.size
            have hbg : w2.heap.size ≤ g := (prow_at R3.out (k := 0) (by omega)).2.1
            have hgw : g < w3.heap.size := (prow_at R3.out (k := 0) (by omega)).2.2.2
            have hne : some w.heap.size ≠ some g := fun e => by injection e with e; omega
            have hpcn : xs.length ≤ pc := (prow_own R3.out).choose_spec.2.2
            clear r3 b3
            have hkpc : (k : Int) ≤ pc := by omega
            go_wp2_with (first
              | (at_builtin; refine papp rfl _ _ rfl rfl (pempty_row w3) rfl (by rw [List.length_take, pieces_len]; omega) (prow_src (m := k) (R3.out.alloc _)) (by simp only [List.length_nil, List.length_take, pieces_len]; omega) (by simp) ?_; intro v4 w4 r4 b4; have HI0 : Hid (PRel w w3.heap.size w2.heap.size g pc xs f b d l (insA xs k b 0) v4 w4) := PRel.app (ps := []) (vo := .slice (some ⟨w3.heap.size, 0, none⟩) 0 0) ⟨pempty_row w3, R3.out.alloc _, P3.out.alloc _, B3.out.alloc B3.out.size _, by simp⟩ (by rw [← insA_zero]; exact r4) b4 hz3 hgw; clear r4 b4)
              | go_in)
            clear R3 P3 B3
            go_loopw [10, 11] (fun vo v wr => ∃ q : Nat, q ≤ j ∧ v = .int .i64 q ∧ Hid (PRel w w3.heap.size w2.heap.size g pc xs f b d l (insA xs k b q) vo wr)) (fun _ v _ => j - (intOf v).toNat)
            case atStart => exact ⟨0, by omega, rfl, HI0⟩
            case round =>
              obtain ⟨q, hq1, rfl, HR⟩ := hrel
              clear HI0
              obtain ⟨oa, oc, hvo⟩ := prow_form HR.out.1
              rw [insA_len (by omega)] at hvo
              obtain ⟨p, hp⟩ : ∃ p, k + q = p := ⟨_, rfl⟩
              rw [hp] at hvo
              subst hvo
              by_cases hq : q < j
              · have d1 : decide ((q : Int) < m) = true := decide_eq_true (by omega)
                have d2 : decide (p < xs.length) = true := decide_eq_true (by omega)
                have HQ : Hid (q < j ∧ k + q = p) := ⟨hq, hp⟩
                clear hp
                have e0 := Own.cell HR.out.2.2.1 0
                have e1 := Own.cell HR.out.2.2.1 1
                have e2 := Own.cell HR.out.2.2.1 2
                have e3 := Own.cell HR.out.2.2.1 3
                simp only [List.getElem?_toArray, List.getElem?_cons_zero, List.getElem?_cons_succ] at e0 e1 e2 e3
                go_wp2_with fail
                refine (ref_blank_any f b d l _).mono ?_
                rintro e wx ⟨rfl, bx⟩
                have HX : Hid (PRel w w3.heap.size w2.heap.size g pc xs f b d l (insA xs k b q) (.slice oa p oc) wx) := HR.out.below bx hz3
                clear bx HR e0 e1 e2 e3
                go_wp2_with (first
                  | (at_builtin; refine papp rfl _ _ rfl rfl (HX.out.1.alloc _) rfl rfl (one_src (p := newPc b) (Own.new wx 95 _)) (by rw [insA_len (by omega)]; simp only [List.length_cons, List.length_nil]; have := HQ.out; omega) (by have := HX.out.2.2.2.2; simp; omega) ?_; intro v5 w5 r5 b5; have HY : Hid (PRel w w3.heap.size w2.heap.size g pc xs f b d l (insA xs k b (q + 1)) v5 w5) := PRel.app (HX.out.alloc hz3 _) (by rw [← insA_next]; exact r5) b5 hz3 hgw; clear r5 b5)
                  | go_in)
                go_roundw
                case rel => exact ⟨q + 1, by have := HQ.out; omega, by go_num, HY⟩
                case measure => have := HQ.out; simp [intOf]; omega
              · obtain rfl : q = j := by omega
                have HP := Lib.hid hp
                clear hq
                go_upto_region 8 with fail
                go_cut [52] (fun v wc => v = .bool false ∧ wr = wc)
                case first =>
                  rcases hjo with hm | hm
                  · have d1 : decide ((q : Int) < m) = false := decide_eq_false (by omega)
                    clear hm hp
                    go_wp2_with fail
                    go_meet
                    exact ⟨rfl, rfl⟩
                  · have d2 : decide (p < xs.length) = false := decide_eq_false (by omega)
                    clear hm hp
                    cases d1 : decide ((q : Int) < m) with
                    | true =>
                      go_wp2_with fail
                      go_meet
                      exact ⟨rfl, rfl⟩
                    | false =>
                      go_wp2_with fail
                      go_meet
                      exact ⟨rfl, rfl⟩
                case rest =>
                  obtain ⟨rfl, rfl⟩ := hcut
                  have HI1 : Hid (PRel w w3.heap.size w2.heap.size g pc xs f b d l (insB xs k b q 0) (.slice oa p oc) wr) := by rw [← insB_zero]; exact HR.out
                  clear HR hp
                  go_wp2_with fail
                  go_loopw [10, 12] (fun vo v wr => ∃ t r : Nat, k + q + t ≤ xs.length ∧ k + t = r ∧ v = .int .i64 r ∧ Hid (PRel w w3.heap.size w2.heap.size g pc xs f b d l (insB xs k b q t) vo wr)) (fun _ v _ => xs.length - (intOf v).toNat)
                  case atStart => exact ⟨0, k, by omega, by omega, rfl, HI1⟩
                  case round =>
                    obtain ⟨t, r, ht1, hr1, rfl, HR⟩ := hrel
                    clear HI1
                    obtain ⟨ua, uc, hvo⟩ := prow_form HR.out.1
                    rw [insB_len (by omega)] at hvo
                    obtain ⟨s, hs⟩ : ∃ s, k + q + t = s := ⟨_, rfl⟩
                    rw [hs] at hvo
                    subst hvo
                    by_cases hst : s < xs.length
                    · have hr2 : r < xs.length := by omega
                      have hi0 : (0 : Int) ≤ (r : Int) := by omega
                      have hi1 : (r : Int) < (xs.length : Int) := by omega
                      have HQ : Hid (k + q + t = s ∧ k + t = r ∧ s < xs.length) := ⟨hs, hr1, hst⟩
                      have HNX : Hid (insB xs k b q t ++ [pat (piecesP xs) r] = insB xs k b q (t + 1)) := by rw [← hr1]; exact insB_next (by omega)
                      obtain ⟨y, hy⟩ : ∃ y, pat (piecesP xs) r = y := ⟨_, rfl⟩
                      rw [hy] at HNX
                      have HG : Hid (PAt wr g (r * 7) y) := by rw [← hy]; exact (prow_at HR.out.2.1 hr2).1
                      obtain ⟨⟨e0, e1, e2, e3, e4, e5⟩, e6⟩ := HG.out
                      clear hy hs hr1
                      go_wp2_with (first
                        | (at_builtin; refine papp rfl _ _ rfl rfl (HR.out.1.alloc _) rfl rfl (one_src (p := y) (Own.new wr 95 _)) (by rw [insB_len (by omega)]; simp only [List.length_cons, List.length_nil]; have := HQ.out; omega) (by have := HR.out.2.2.2.2; simp; omega) ?_; intro v5 w5 r5 b5; have HY : Hid (PRel w w3.heap.size w2.heap.size g pc xs f b d l (insB xs k b q (t + 1)) v5 w5) := PRel.app (HR.out.alloc hz3 _) (by rw [← HNX.out]; exact r5) b5 hz3 hgw; clear r5 b5 e0 e1 e2 e3 e4 e5 e6)
                        | go_in)
                      go_roundw
                      case rel => exact ⟨t + 1, r + 1, by have := HQ.out; omega, by have := HQ.out; omega, by go_num, HY⟩
                      case measure => have := HQ.out; simp [intOf]; omega
                    · obtain rfl : s = xs.length := by omega
                      have HE : Hid (PRel w w3.heap.size w2.heap.size g pc xs f b d l (insertPc xs k m b) (.slice ua xs.length uc) wr) := by rw [← insB_all (k := k) (j := q) rfl HJ.out, show xs.length - k - q = t from by omega]; exact HR.out
                      have HBB : Hid (∀ i, i < xs.length → -100 ≤ (pat (insertPc xs k m b) i).s ∧ (pat (insertPc xs k m b) i).s ≤ 1000) := bound_insert hn8 rfl HJ.out hkn hj2
                      obtain ⟨u, rfl⟩ := prow_addr HE.out.1 (by omega)
                      clear HR hs hst hr1
                      go_wp2_with fail
                      refine (mend_any u xs.length uc _ (insertPc xs k m b) _ HE.out.1 (by omega) hn8 HBB.out).mono ?_
                      rintro e w8 ⟨v8, rfl, r8, b8⟩
                      have R8 := Lib.hid r8
                      have B8 := Lib.hid b8
                      clear r8 b8
                      go_wp2_with fail
                      go_ret
                      exact ⟨_, rfl, by rw [HF.out]; exact R8.out.up HE.out.2.2.2.1.size, HE.out.2.2.2.1.trans (B8.out.mono HE.out.2.2.2.1.size)⟩
end Go.Proofs.YtlhcehealjdbdaaDoor
