/- Pieces mended: the document's walk. -/
import Derived.Test.YtlhcehealjdbdaaDoorPieces
import Derived.Deep.DeepCutAuto
namespace Go.Proofs.YtlhcehealjdbdaaDoor
open Go.RowKit
set_option linter.unusedSimpArgs false
set_option linter.unusedVariables false
attribute [local go_sem] alloc_drewN setCell_drewN


def mendK (ps : List Pc) (k : Nat) : List Glyph := (List.range ps.length).map fun i => if i < k then mendF ps i else g0
theorem mendK_len (ps : List Pc) (k : Nat) : (mendK ps k).length = ps.length := by simp [mendK]
theorem mendK_pt {ps : List Pc} {k i : Nat} (h : i < ps.length) : at_ (mendK ps k) i = if i < k then mendF ps i else g0 := by
  unfold at_ mendK
  rw [List.getD_eq_getElem?_getD, List.getElem?_map, List.getElem?_range h]
  rfl
theorem mendK_zero (ps : List Pc) : mendK ps 0 = List.replicate ps.length g0 := by
  refine gext (by rw [mendK_len, List.length_replicate]) fun j hj => ?_
  rw [mendK_len] at hj
  show at_ (mendK ps 0) j = at_ (List.replicate ps.length g0) j
  rw [mendK_pt hj, if_neg (by omega)]
  exact grep_at.symm
theorem mendK_all (ps : List Pc) : mendK ps ps.length = mendP ps := by
  refine gext (by rw [mendK_len, mend_len]) fun j hj => ?_
  rw [mendK_len] at hj
  show at_ (mendK ps ps.length) j = at_ (mendP ps) j
  rw [mendK_pt hj, if_pos hj, mend_pt hj]
theorem mendK_set {ps : List Pc} {k : Nat} (hk : k < ps.length) : (mendK ps k).set k (mendF ps k) = mendK ps (k + 1) := by
  refine gext (by rw [List.length_set, mendK_len, mendK_len]) fun j hj => ?_
  rw [List.length_set, mendK_len] at hj
  show at_ ((mendK ps k).set k (mendF ps k)) j = at_ (mendK ps (k + 1)) j
  rw [at_setT (by rw [mendK_len]; exact hk), mendK_pt hj, mendK_pt hj]
  by_cases h1 : j = k
  · rw [if_pos h1, if_pos (by omega), h1]
  · rw [if_neg h1]
    by_cases h2 : j < k
    · rw [if_pos h2, if_pos (by omega)]
    · rw [if_neg h2, if_neg (by omega)]
def M1 (ps : List Pc) (q : Nat) : Prop := (pat ps q).c.w = 1 ∧ (q + 1 = ps.length ∨ (pat ps (q + 1)).c.w ≠ 2 ∨ (pat ps (q + 1)).s ≠ (pat ps q).s + 1)
def M2 (ps : List Pc) (q : Nat) : Prop := (pat ps q).c.w = 2 ∧ (q = 0 ∨ (pat ps (q - 1)).c.w ≠ 1 ∨ (pat ps (q - 1)).s ≠ (pat ps q).s - 1)
instance (ps : List Pc) (q : Nat) : Decidable (M1 ps q) := by unfold M1; infer_instance
instance (ps : List Pc) (q : Nat) : Decidable (M2 ps q) := by unfold M2; infer_instance
theorem mendF_1 {ps : List Pc} {q : Nat} (h : M1 ps q) : mendF ps q = blank (pat ps q).c.b := by
  unfold M1 at h
  unfold mendF
  rw [if_neg (fun k => by have := h.1; omega), if_pos h]
theorem mendF_2 {ps : List Pc} {q : Nat} (h : M2 ps q) : mendF ps q = blank (pat ps q).c.b := by
  unfold M2 at h
  unfold mendF
  rw [if_pos h]
theorem mendF_0 {ps : List Pc} {q : Nat} (h1 : ¬ M1 ps q) (h2 : ¬ M2 ps q) : mendF ps q = (pat ps q).c := by
  unfold M1 at h1
  unfold M2 at h2
  unfold mendF
  rw [if_neg h2, if_neg h1]
def MRel (ps : List Pc) (w : World) (n k : Nat) (wr : World) : Prop := CRow wr w.heap.size (.slice (some ⟨w.heap.size, 0, none⟩) n n) (mendK ps k) ∧ Below w.heap.size w wr
def MRelX (ps : List Pc) (w : World) (n k : Nat) (d : Glyph) (wr : World) : Prop := CRow wr w.heap.size (.slice (some ⟨w.heap.size, 0, none⟩) n n) ((mendK ps k).set k d) ∧ Below w.heap.size w wr
theorem MRelX.below {ps : List Pc} {w : World} {n k : Nat} {d : Glyph} {w1 w2 : World} (h : MRelX ps w n k d w1) (b : Below w1.heap.size w1 w2) : MRelX ps w n k d w2 := ⟨h.1.below b, h.2.trans (b.mono h.2.size)⟩
set_option maxRecDepth 10000 in
set_option maxHeartbeats 4000000 in
theorem mend_any (g n c base : Nat) (ps : List Pc) (w : World) (hr : PRow w base (.slice (some ⟨g, 0, none⟩) n c) ps) (h1 : 1 ≤ n) (h8 : n ≤ 80) (hb : ∀ i, i < n → -100 ≤ (pat ps i).s ∧ (pat ps i).s ≤ 1000) : Calls Tryd.prog 71 #[.slice (some ⟨g, 0, none⟩) n c] w (GPost (mendP ps) w) := by
  have HN : Hid (ps.length = n) := prow_len hr
  have HR0 := Lib.hid hr
  have HB := Lib.hid hb
  have hgw : g < w.heap.size := (prow_at hr (k := 0) (by omega)).2.2.2
  clear hr hb
  go_enter Tryd.func71, Tryd.ntmps71
  go_wp2_with (first
    | (at_make; refine wpList_make_full _ rfl _ _ 29 rfl w.heap.size 28 _ _ 6 Tryd.underlying29 ginfoE gzeroE (by kernel_rfl) .i64 .i64 _ _ n rfl rfl rfl rfl (by rw [gbytes]; omega) (by unfold maxLen; omega) (Nat.le_refl _) ?_; intro w1 o1 g1; have R1 := Lib.hid (gmake_row o1); have B1 := Lib.hid (gbelow_none g1); clear o1 g1)
    | go_in)
  have HL0 : Hid (MRel ps w n 0 w1) := ⟨by rw [mendK_zero, HN.out]; exact R1.out, B1.out⟩
  clear R1
  go_loopw [10] (fun v wr => ∃ q : Nat, q ≤ n ∧ v = .int .i64 q ∧ Hid (MRel ps w n q wr)) (fun v _ => n - (intOf v).toNat)
  case atStart => exact ⟨0, by omega, rfl, HL0⟩
  case round =>
    obtain ⟨q, hq1, rfl, HR⟩ := hrel
    clear HL0
    by_cases hq : q < n
    · have hi0 : (0 : Int) ≤ (q : Int) := by omega
      have hi1 : (q : Int) < (n : Int) := by omega
      have HQ : Hid (q < n) := hq
      have HNX : Hid ((mendK ps q).set q (mendF ps q) = mendK ps (q + 1)) := mendK_set (by rw [HN.out]; exact hq)
      obtain ⟨p, hp⟩ : ∃ p, pat ps q = p := ⟨_, rfl⟩
      have HP := Lib.hid hp
      have HPA : Hid (∀ wz, Below w.heap.size w wz → ∀ k, k < n → PAt wz g (k * 7) (pat ps k)) := fun wz hb k hk => (prow_at HR0.out hk).1.same fun a ha => hb.cell (by omega)
      have HG : Hid (PAt wr g (q * 7) p) := by rw [← hp]; exact HPA.out wr HR.out.2 q hq
      obtain ⟨⟨e0, e1, e2, e3, e4, e5⟩, e6⟩ := HG.out
      clear hp
      go_upto_region 6 with (first
        | (refine gstore_list rfl _ _ rfl (d := p.c) rfl rfl HR.out.1 hq ?_; intro wy r5 g5; have Hwy : Hid (CRow wy w.heap.size (.slice (some ⟨w.heap.size, 0, none⟩) n n) ((mendK ps q).set q (p.c)) ∧ Below w.heap.size w wy) := ⟨(by first | exact r5 | (rw [List.set_set] at r5; exact r5)), below_grown HR.out.2 g5 (Nat.le_refl _) HR.out.2.size⟩; clear r5 g5)
        | go_in)
      (try simp only [Act.put])
      clear e0 e1 e2 e3 e4 e5 e6 HG
      have SA : Hid (PAt wy.drew g (q * 7) p ∧ ∀ k, k < n → PAt wy.drew g (k * 7) (pat ps k)) := ⟨by rw [← HP.out]; exact HPA.out wy.drew (below_drewN Hwy.out.2 1) q hq, HPA.out wy.drew (below_drewN Hwy.out.2 1)⟩
      obtain ⟨t1, ht1⟩ : ∃ t, decide (M1 ps q) = t := ⟨_, rfl⟩
      have HT := Lib.hid ht1
      clear ht1
      go_cut [59] (fun v wc => v = .bool t1 ∧ wc = wy.drew)
      case first =>
        cases hw1 : (p.c.w == 1) with
        | false =>
          refine wp_region_bits_at (S := fun w' => PAt w' g (q * 7) p) [(0, true), (1, true), (2, true), (3, true), (4, true), (5, true), (6, true), (7, true), (8, true), (9, true), (10, true), (11, true), (12, true), (13, true), (14, true), (15, true), (16, true), (17, true), (18, true), (19, true), (20, true), (21, true), (22, true), (23, true), (24, true), (25, true), (26, true), (27, true), (28, true), (29, true), (30, true), (31, true), (32, true), (33, true), (34, true), (35, true), (36, true), (37, true), (38, true)] [] (by kernel_rfl) (by kernel_rfl) (fun c a d v w h => by cases d <;> exact h) SA.out.1 ?_
          simp only [bits_, bitOf, List.getElem?_cons_zero, List.getElem?_cons_succ, List.contains_nil]
          repeat (first | (refine bits_take (v := ?_) (by rfl) ?_ ?_; rotate_left; (· intro w' hS; obtain ⟨⟨s0, s1, s2, s3, s4, s5⟩, s6⟩ := hS; go_simp; (try (go_ints; try go_simp)); with_reducible rfl); (try simp only [Act.put, List.setIfInBounds_toArray, List.set_cons_zero, List.set_cons_succ])) | (refine bits_skip (by rfl) ?_; (try simp only [Act.put, List.setIfInBounds_toArray, List.set_cons_zero, List.set_cons_succ])))
          refine bits_nil ?_
          refine Met.intro ?_
          go_step
          go_meet
          exact ⟨congrArg Value.bool (((decide_eq_false fun k => by unfold M1 at k; rw [HP.out] at k; exact absurd (beq_iff_eq.2 k.1) (by rw [hw1]; decide)).symm).trans HT.out), rfl⟩
        | true =>
          by_cases hlast : q + 1 = n
          · have hl1 : ((q : Int) == (n : Int) - 1) = true := beq_iff_eq.2 (by omega)
            have HLST := Lib.hid hlast
            clear hlast
            refine wp_region_bits_at (S := fun w' => PAt w' g (q * 7) p) [(0, true), (1, true), (2, true), (3, true), (4, true), (5, true), (6, true), (7, true), (8, true), (9, true), (10, true), (11, true), (12, true), (13, true), (14, true), (15, true), (16, true), (17, true), (18, true), (19, true), (20, true), (21, true), (22, true), (23, true), (24, true), (25, true), (26, true), (27, true), (28, true), (29, true), (30, true), (31, true), (32, true), (33, true), (34, true), (35, true), (36, true), (37, true), (38, true)] [] (by kernel_rfl) (by kernel_rfl) (fun c a d v w h => by cases d <;> exact h) SA.out.1 ?_
            simp only [bits_, bitOf, List.getElem?_cons_zero, List.getElem?_cons_succ, List.contains_nil]
            repeat (first | (refine bits_take (v := ?_) (by rfl) ?_ ?_; rotate_left; (· intro w' hS; obtain ⟨⟨s0, s1, s2, s3, s4, s5⟩, s6⟩ := hS; go_simp; (try (go_ints; try go_simp)); with_reducible rfl); (try simp only [Act.put, List.setIfInBounds_toArray, List.set_cons_zero, List.set_cons_succ])) | (refine bits_skip (by rfl) ?_; (try simp only [Act.put, List.setIfInBounds_toArray, List.set_cons_zero, List.set_cons_succ])))
            refine bits_nil ?_
            refine Met.intro ?_
            go_step
            go_meet
            exact ⟨congrArg Value.bool (((decide_eq_true ⟨by rw [HP.out]; exact eq_of_beq hw1, .inl (by rw [HN.out]; exact HLST.out)⟩).symm).trans HT.out), rfl⟩
          · have hl1 : ((q : Int) == (n : Int) - 1) = false := beq_eq_false_iff_ne.2 (by omega)
            have hi2 : (q : Int) + 1 < n := by omega
            have hi3 : (0 : Int) ≤ (q : Int) + 1 := by omega
            have hq1n : q + 1 < n := by omega
            obtain ⟨y, hy⟩ : ∃ y, pat ps (q + 1) = y := ⟨_, rfl⟩
            have HY := Lib.hid hy
            have SB : Hid (PAt wy.drew g (q * 7) p ∧ PAt wy.drew g ((q + 1) * 7) y) := ⟨SA.out.1, by rw [← hy]; exact SA.out.2 (q + 1) hq1n⟩
            have hb1 := HB.out (q + 1) hq1n
            have hb0 := HB.out q (by omega)
            rw [HP.out] at hb0
            rw [hy] at hb1
            have hlast' := Lib.hid hlast
            clear hy hlast
            cases hw2 : (y.c.w != 2) with
            | true =>
              refine wp_region_bits_at (S := fun w' => PAt w' g (q * 7) p ∧ PAt w' g ((q + 1) * 7) y) [(0, true), (1, true), (2, true), (3, true), (4, true), (5, true), (6, true), (7, true), (8, true), (9, true), (10, true), (11, true), (12, true), (13, true), (14, true), (15, true), (16, true), (17, true), (18, true), (19, true), (20, true), (21, true), (22, true), (23, true), (24, true), (25, true), (26, true), (27, true), (28, true), (29, true), (30, true), (31, true), (32, true), (33, true), (34, true), (35, true), (36, true), (37, true), (38, true)] [] (by kernel_rfl) (by kernel_rfl) (fun c a d v w h => by cases d <;> exact h) SB.out ?_
              simp only [bits_, bitOf, List.getElem?_cons_zero, List.getElem?_cons_succ, List.contains_nil]
              repeat (first | (refine bits_take (v := ?_) (by rfl) ?_ ?_; rotate_left; (· intro w' hS; obtain ⟨⟨⟨s0, s1, s2, s3, s4, s5⟩, s6⟩, ⟨t0, t1, t2, t3, t4, t5⟩, t6⟩ := hS; go_simp; (try (go_ints; try go_simp)); with_reducible rfl); (try simp only [Act.put, List.setIfInBounds_toArray, List.set_cons_zero, List.set_cons_succ])) | (refine bits_skip (by rfl) ?_; (try simp only [Act.put, List.setIfInBounds_toArray, List.set_cons_zero, List.set_cons_succ])))
              refine bits_nil ?_
              refine Met.intro ?_
              go_step
              go_meet
              exact ⟨congrArg Value.bool (((decide_eq_true ⟨by rw [HP.out]; exact eq_of_beq hw1, .inr (.inl (by rw [HY.out]; exact bne_iff_ne.1 hw2))⟩).symm).trans HT.out), rfl⟩
            | false =>
              cases hs2 : (y.s != p.s + 1) with
              | true =>
                refine wp_region_bits_at (S := fun w' => PAt w' g (q * 7) p ∧ PAt w' g ((q + 1) * 7) y) [(0, true), (1, true), (2, true), (3, true), (4, true), (5, true), (6, true), (7, true), (8, true), (9, true), (10, true), (11, true), (12, true), (13, true), (14, true), (15, true), (16, true), (17, true), (18, true), (19, true), (20, true), (21, true), (22, true), (23, true), (24, true), (25, true), (26, true), (27, true), (28, true), (29, true), (30, true), (31, true), (32, true), (33, true), (34, true), (35, true), (36, true), (37, true), (38, true)] [] (by kernel_rfl) (by kernel_rfl) (fun c a d v w h => by cases d <;> exact h) SB.out ?_
                simp only [bits_, bitOf, List.getElem?_cons_zero, List.getElem?_cons_succ, List.contains_nil]
                repeat (first | (refine bits_take (v := ?_) (by rfl) ?_ ?_; rotate_left; (· intro w' hS; obtain ⟨⟨⟨s0, s1, s2, s3, s4, s5⟩, s6⟩, ⟨t0, t1, t2, t3, t4, t5⟩, t6⟩ := hS; go_simp; (try (go_ints; try go_simp)); with_reducible rfl); (try simp only [Act.put, List.setIfInBounds_toArray, List.set_cons_zero, List.set_cons_succ])) | (refine bits_skip (by rfl) ?_; (try simp only [Act.put, List.setIfInBounds_toArray, List.set_cons_zero, List.set_cons_succ])))
                refine bits_nil ?_
                refine Met.intro ?_
                go_step
                go_meet
                exact ⟨congrArg Value.bool (((decide_eq_true ⟨by rw [HP.out]; exact eq_of_beq hw1, .inr (.inr (by rw [HY.out, HP.out]; exact bne_iff_ne.1 hs2))⟩).symm).trans HT.out), rfl⟩
              | false =>
                refine wp_region_bits_at (S := fun w' => PAt w' g (q * 7) p ∧ PAt w' g ((q + 1) * 7) y) [(0, true), (1, true), (2, true), (3, true), (4, true), (5, true), (6, true), (7, true), (8, true), (9, true), (10, true), (11, true), (12, true), (13, true), (14, true), (15, true), (16, true), (17, true), (18, true), (19, true), (20, true), (21, true), (22, true), (23, true), (24, true), (25, true), (26, true), (27, true), (28, true), (29, true), (30, true), (31, true), (32, true), (33, true), (34, true), (35, true), (36, true), (37, true), (38, true)] [] (by kernel_rfl) (by kernel_rfl) (fun c a d v w h => by cases d <;> exact h) SB.out ?_
                simp only [bits_, bitOf, List.getElem?_cons_zero, List.getElem?_cons_succ, List.contains_nil]
                repeat (first | (refine bits_take (v := ?_) (by rfl) ?_ ?_; rotate_left; (· intro w' hS; obtain ⟨⟨⟨s0, s1, s2, s3, s4, s5⟩, s6⟩, ⟨t0, t1, t2, t3, t4, t5⟩, t6⟩ := hS; go_simp; (try (go_ints; try go_simp)); with_reducible rfl); (try simp only [Act.put, List.setIfInBounds_toArray, List.set_cons_zero, List.set_cons_succ])) | (refine bits_skip (by rfl) ?_; (try simp only [Act.put, List.setIfInBounds_toArray, List.set_cons_zero, List.set_cons_succ])))
                refine bits_nil ?_
                refine Met.intro ?_
                go_step
                go_meet
                exact ⟨congrArg Value.bool (((decide_eq_false fun k => by unfold M1 at k; rw [HY.out, HP.out, HN.out] at k; rcases k.2 with k | k | k; exact hlast'.out k; exact absurd (bne_iff_ne.2 k) (by rw [hw2]; decide); exact absurd (bne_iff_ne.2 k) (by rw [hs2]; decide)).symm).trans HT.out), rfl⟩
      case rest =>
        obtain ⟨rfl, rfl⟩ := hcut
        cases t1 with
        | true =>
          have hm1 := of_decide_eq_true HT.out
          have HM := Lib.hid (mendF_1 hm1)
          have HM2 : Hid (¬ M2 ps q) := fun k => by have h1 := hm1.1; have h2 := k.1; omega
          have HWD : Hid (MRelX ps w n q p.c wy.drew) := ⟨Hwy.out.1, below_drewN Hwy.out.2 1⟩
          obtain ⟨⟨e0, e1, e2, e3, e4, e5⟩, e6⟩ := SA.out.1
          clear hm1
          go_wp2_with fail
          refine (ref_blank_any p.c.f p.c.b p.c.a p.c.l _).mono ?_
          rintro e wx ⟨rfl, bx⟩
          have HWX : Hid (MRelX ps w n q p.c wx) := HWD.out.below bx
          clear bx e0 e1 e2 e3 e4 e5 e6
          go_upto_region 8 with (first
            | (refine gstore_list rfl _ _ rfl (d := blank p.c.b) rfl rfl HWX.out.1 hq ?_; intro wz r5 g5; have Hwz : Hid (CRow wz w.heap.size (.slice (some ⟨w.heap.size, 0, none⟩) n n) ((mendK ps q).set q (blank p.c.b)) ∧ Below w.heap.size w wz) := ⟨(by first | exact r5 | (rw [List.set_set] at r5; exact r5)), below_grown HWX.out.2 g5 (Nat.le_refl _) HWX.out.2.size⟩; clear r5 g5)
            | go_in)
          (try simp only [Act.put])
          have SA : Hid (PAt wz.drew g (q * 7) p ∧ ∀ k, k < n → PAt wz.drew g (k * 7) (pat ps k)) := ⟨by rw [← HP.out]; exact HPA.out wz.drew (below_drewN Hwz.out.2 1) q hq, HPA.out wz.drew (below_drewN Hwz.out.2 1)⟩
          obtain ⟨t2, ht2⟩ : ∃ t, decide (M2 ps q) = t := ⟨_, rfl⟩
          have HT := Lib.hid ht2
          clear ht2
          go_cut [105] (fun v wc => v = .bool t2 ∧ wc = wz.drew)
          case first =>
            cases hw1 : (p.c.w == 2) with
            | false =>
              refine wp_region_bits_at (S := fun w' => PAt w' g (q * 7) p) [(0, true), (1, true), (2, true), (3, true), (4, true), (5, true), (6, true), (7, true), (8, true), (9, true), (10, true), (11, true), (12, true), (13, true), (14, true), (15, true), (16, true), (17, true), (18, true), (19, true), (20, true), (21, true), (22, true), (23, true), (24, true), (25, true), (26, true), (27, true), (28, true), (29, true), (30, true), (31, true), (32, true), (33, true), (34, true), (35, true)] [] (by kernel_rfl) (by kernel_rfl) (fun c a d v w h => by cases d <;> exact h) SA.out.1 ?_
              simp only [bits_, bitOf, List.getElem?_cons_zero, List.getElem?_cons_succ, List.contains_nil]
              repeat (first | (refine bits_take (v := ?_) (by rfl) ?_ ?_; rotate_left; (· intro w' hS; obtain ⟨⟨s0, s1, s2, s3, s4, s5⟩, s6⟩ := hS; go_simp; (try (go_ints; try go_simp)); with_reducible rfl); (try simp only [Act.put, List.setIfInBounds_toArray, List.set_cons_zero, List.set_cons_succ])) | (refine bits_skip (by rfl) ?_; (try simp only [Act.put, List.setIfInBounds_toArray, List.set_cons_zero, List.set_cons_succ])))
              refine bits_nil ?_
              refine Met.intro ?_
              go_step
              go_meet
              exact ⟨congrArg Value.bool (((decide_eq_false fun k => by unfold M2 at k; rw [HP.out] at k; exact absurd (beq_iff_eq.2 k.1) (by rw [hw1]; decide)).symm).trans HT.out), rfl⟩
            | true =>
              by_cases hlast : q = 0
              · have hl1 : ((q : Int) == 0) = true := beq_iff_eq.2 (by omega)
                have hl2 : (q == 0) = true := beq_iff_eq.2 (by omega)
                have HLST := Lib.hid hlast
                clear hlast
                refine wp_region_bits_at (S := fun w' => PAt w' g (q * 7) p) [(0, true), (1, true), (2, true), (3, true), (4, true), (5, true), (6, true), (7, true), (8, true), (9, true), (10, true), (11, true), (12, true), (13, true), (14, true), (15, true), (16, true), (17, true), (18, true), (19, true), (20, true), (21, true), (22, true), (23, true), (24, true), (25, true), (26, true), (27, true), (28, true), (29, true), (30, true), (31, true), (32, true), (33, true), (34, true), (35, true)] [] (by kernel_rfl) (by kernel_rfl) (fun c a d v w h => by cases d <;> exact h) SA.out.1 ?_
                simp only [bits_, bitOf, List.getElem?_cons_zero, List.getElem?_cons_succ, List.contains_nil]
                repeat (first | (refine bits_take (v := ?_) (by rfl) ?_ ?_; rotate_left; (· intro w' hS; obtain ⟨⟨s0, s1, s2, s3, s4, s5⟩, s6⟩ := hS; go_simp; (try (go_ints; try go_simp)); with_reducible rfl); (try simp only [Act.put, List.setIfInBounds_toArray, List.set_cons_zero, List.set_cons_succ])) | (refine bits_skip (by rfl) ?_; (try simp only [Act.put, List.setIfInBounds_toArray, List.set_cons_zero, List.set_cons_succ])))
                refine bits_nil ?_
                refine Met.intro ?_
                go_step
                go_meet
                exact ⟨congrArg Value.bool (((decide_eq_true ⟨by rw [HP.out]; exact eq_of_beq hw1, .inl HLST.out⟩).symm).trans HT.out), rfl⟩
              · have hl1 : ((q : Int) == 0) = false := beq_eq_false_iff_ne.2 (by omega)
                have hl2 : (q == 0) = false := beq_eq_false_iff_ne.2 (by omega)
                obtain ⟨k, hk⟩ : ∃ k, k = q - 1 := ⟨_, rfl⟩
                have hki : (q : Int) - 1 = k := by omega
                have hkn : k < n := by omega
                have hk0 : (0 : Int) ≤ (k : Int) := by omega
                have hk1 : (k : Int) < n := by omega
                obtain ⟨y, hy⟩ : ∃ y, pat ps k = y := ⟨_, rfl⟩
                have HY : Hid (pat ps (q - 1) = y) := by rw [← hk]; exact hy
                have SB : Hid (PAt wz.drew g (q * 7) p ∧ PAt wz.drew g (k * 7) y) := ⟨SA.out.1, by rw [← hy]; exact SA.out.2 k hkn⟩
                have hb1 := HB.out k hkn
                have hb0 := HB.out q (by omega)
                rw [HP.out] at hb0
                rw [hy] at hb1
                have hlast' := Lib.hid hlast
                clear hy hlast hk
                cases hw2 : (y.c.w != 1) with
                | true =>
                  refine wp_region_bits_at (S := fun w' => PAt w' g (q * 7) p ∧ PAt w' g (k * 7) y) [(0, true), (1, true), (2, true), (3, true), (4, true), (5, true), (6, true), (7, true), (8, true), (9, true), (10, true), (11, true), (12, true), (13, true), (14, true), (15, true), (16, true), (17, true), (18, true), (19, true), (20, true), (21, true), (22, true), (23, true), (24, true), (25, true), (26, true), (27, true), (28, true), (29, true), (30, true), (31, true), (32, true), (33, true), (34, true), (35, true)] [] (by kernel_rfl) (by kernel_rfl) (fun c a d v w h => by cases d <;> exact h) SB.out ?_
                  simp only [bits_, bitOf, List.getElem?_cons_zero, List.getElem?_cons_succ, List.contains_nil]
                  repeat (first | (refine bits_take (v := ?_) (by rfl) ?_ ?_; rotate_left; (· intro w' hS; obtain ⟨⟨⟨s0, s1, s2, s3, s4, s5⟩, s6⟩, ⟨t0, t1, t2, t3, t4, t5⟩, t6⟩ := hS; go_simp; (try (go_ints; try go_simp)); with_reducible rfl); (try simp only [Act.put, List.setIfInBounds_toArray, List.set_cons_zero, List.set_cons_succ])) | (refine bits_skip (by rfl) ?_; (try simp only [Act.put, List.setIfInBounds_toArray, List.set_cons_zero, List.set_cons_succ])))
                  refine bits_nil ?_
                  refine Met.intro ?_
                  go_step
                  go_meet
                  exact ⟨congrArg Value.bool (((decide_eq_true ⟨by rw [HP.out]; exact eq_of_beq hw1, .inr (.inl (by rw [HY.out]; exact bne_iff_ne.1 hw2))⟩).symm).trans HT.out), rfl⟩
                | false =>
                  cases hs2 : (y.s != p.s - 1) with
                  | true =>
                    refine wp_region_bits_at (S := fun w' => PAt w' g (q * 7) p ∧ PAt w' g (k * 7) y) [(0, true), (1, true), (2, true), (3, true), (4, true), (5, true), (6, true), (7, true), (8, true), (9, true), (10, true), (11, true), (12, true), (13, true), (14, true), (15, true), (16, true), (17, true), (18, true), (19, true), (20, true), (21, true), (22, true), (23, true), (24, true), (25, true), (26, true), (27, true), (28, true), (29, true), (30, true), (31, true), (32, true), (33, true), (34, true), (35, true)] [] (by kernel_rfl) (by kernel_rfl) (fun c a d v w h => by cases d <;> exact h) SB.out ?_
                    simp only [bits_, bitOf, List.getElem?_cons_zero, List.getElem?_cons_succ, List.contains_nil]
                    repeat (first | (refine bits_take (v := ?_) (by rfl) ?_ ?_; rotate_left; (· intro w' hS; obtain ⟨⟨⟨s0, s1, s2, s3, s4, s5⟩, s6⟩, ⟨t0, t1, t2, t3, t4, t5⟩, t6⟩ := hS; go_simp; (try (go_ints; try go_simp)); with_reducible rfl); (try simp only [Act.put, List.setIfInBounds_toArray, List.set_cons_zero, List.set_cons_succ])) | (refine bits_skip (by rfl) ?_; (try simp only [Act.put, List.setIfInBounds_toArray, List.set_cons_zero, List.set_cons_succ])))
                    refine bits_nil ?_
                    refine Met.intro ?_
                    go_step
                    go_meet
                    exact ⟨congrArg Value.bool (((decide_eq_true ⟨by rw [HP.out]; exact eq_of_beq hw1, .inr (.inr (by rw [HY.out, HP.out]; exact bne_iff_ne.1 hs2))⟩).symm).trans HT.out), rfl⟩
                  | false =>
                    refine wp_region_bits_at (S := fun w' => PAt w' g (q * 7) p ∧ PAt w' g (k * 7) y) [(0, true), (1, true), (2, true), (3, true), (4, true), (5, true), (6, true), (7, true), (8, true), (9, true), (10, true), (11, true), (12, true), (13, true), (14, true), (15, true), (16, true), (17, true), (18, true), (19, true), (20, true), (21, true), (22, true), (23, true), (24, true), (25, true), (26, true), (27, true), (28, true), (29, true), (30, true), (31, true), (32, true), (33, true), (34, true), (35, true)] [] (by kernel_rfl) (by kernel_rfl) (fun c a d v w h => by cases d <;> exact h) SB.out ?_
                    simp only [bits_, bitOf, List.getElem?_cons_zero, List.getElem?_cons_succ, List.contains_nil]
                    repeat (first | (refine bits_take (v := ?_) (by rfl) ?_ ?_; rotate_left; (· intro w' hS; obtain ⟨⟨⟨s0, s1, s2, s3, s4, s5⟩, s6⟩, ⟨t0, t1, t2, t3, t4, t5⟩, t6⟩ := hS; go_simp; (try (go_ints; try go_simp)); with_reducible rfl); (try simp only [Act.put, List.setIfInBounds_toArray, List.set_cons_zero, List.set_cons_succ])) | (refine bits_skip (by rfl) ?_; (try simp only [Act.put, List.setIfInBounds_toArray, List.set_cons_zero, List.set_cons_succ])))
                    refine bits_nil ?_
                    refine Met.intro ?_
                    go_step
                    go_meet
                    exact ⟨congrArg Value.bool (((decide_eq_false fun k => by unfold M2 at k; rw [HY.out, HP.out] at k; rcases k.2 with k | k | k; exact hlast'.out k; exact absurd (bne_iff_ne.2 k) (by rw [hw2]; decide); exact absurd (bne_iff_ne.2 k) (by rw [hs2]; decide)).symm).trans HT.out), rfl⟩
          case rest =>
            obtain ⟨rfl, rfl⟩ := hcut
            obtain rfl : t2 = false := HT.out.symm.trans (decide_eq_false HM2.out)
            go_wp2_with fail
            go_roundw
            case rel => exact ⟨q + 1, HQ.out, by go_num, by rw [← HNX.out, HM.out, HP.out]; exact Hwz.out.1, below_drewN Hwz.out.2 1⟩
            case measure => have := HQ.out; simp [intOf]; omega
        | false =>
          have hm1 := of_decide_eq_false HT.out
          have HM1 := Lib.hid hm1
          obtain ⟨wz, hwz⟩ : ∃ wz, wz = wy.drew := ⟨_, rfl⟩
          have Hwz : Hid (CRow wz w.heap.size (.slice (some ⟨w.heap.size, 0, none⟩) n n) ((mendK ps q).set q p.c) ∧ Below w.heap.size w wz) := by rw [hwz]; exact ⟨Hwy.out.1, below_drewN Hwy.out.2 1⟩
          rw [← hwz] at SA ⊢
          clear hwz Hwy hm1 SA
          go_upto_region 8 with fail
          have SA : Hid (PAt wz.drew g (q * 7) p ∧ ∀ k, k < n → PAt wz.drew g (k * 7) (pat ps k)) := ⟨by rw [← HP.out]; exact HPA.out wz.drew (below_drewN Hwz.out.2 1) q hq, HPA.out wz.drew (below_drewN Hwz.out.2 1)⟩
          obtain ⟨t2, ht2⟩ : ∃ t, decide (M2 ps q) = t := ⟨_, rfl⟩
          have HT := Lib.hid ht2
          clear ht2
          go_cut [105] (fun v wc => v = .bool t2 ∧ wc = wz.drew)
          case first =>
            cases hw1 : (p.c.w == 2) with
            | false =>
              refine wp_region_bits_at (S := fun w' => PAt w' g (q * 7) p) [(0, true), (1, true), (2, true), (3, true), (4, true), (5, true), (6, true), (7, true), (8, true), (9, true), (10, true), (11, true), (12, true), (13, true), (14, true), (15, true), (16, true), (17, true), (18, true), (19, true), (20, true), (21, true), (22, true), (23, true), (24, true), (25, true), (26, true), (27, true), (28, true), (29, true), (30, true), (31, true), (32, true), (33, true), (34, true), (35, true)] [] (by kernel_rfl) (by kernel_rfl) (fun c a d v w h => by cases d <;> exact h) SA.out.1 ?_
              simp only [bits_, bitOf, List.getElem?_cons_zero, List.getElem?_cons_succ, List.contains_nil]
              repeat (first | (refine bits_take (v := ?_) (by rfl) ?_ ?_; rotate_left; (· intro w' hS; obtain ⟨⟨s0, s1, s2, s3, s4, s5⟩, s6⟩ := hS; go_simp; (try (go_ints; try go_simp)); with_reducible rfl); (try simp only [Act.put, List.setIfInBounds_toArray, List.set_cons_zero, List.set_cons_succ])) | (refine bits_skip (by rfl) ?_; (try simp only [Act.put, List.setIfInBounds_toArray, List.set_cons_zero, List.set_cons_succ])))
              refine bits_nil ?_
              refine Met.intro ?_
              go_step
              go_meet
              exact ⟨congrArg Value.bool (((decide_eq_false fun k => by unfold M2 at k; rw [HP.out] at k; exact absurd (beq_iff_eq.2 k.1) (by rw [hw1]; decide)).symm).trans HT.out), rfl⟩
            | true =>
              by_cases hlast : q = 0
              · have hl1 : ((q : Int) == 0) = true := beq_iff_eq.2 (by omega)
                have hl2 : (q == 0) = true := beq_iff_eq.2 (by omega)
                have HLST := Lib.hid hlast
                clear hlast
                refine wp_region_bits_at (S := fun w' => PAt w' g (q * 7) p) [(0, true), (1, true), (2, true), (3, true), (4, true), (5, true), (6, true), (7, true), (8, true), (9, true), (10, true), (11, true), (12, true), (13, true), (14, true), (15, true), (16, true), (17, true), (18, true), (19, true), (20, true), (21, true), (22, true), (23, true), (24, true), (25, true), (26, true), (27, true), (28, true), (29, true), (30, true), (31, true), (32, true), (33, true), (34, true), (35, true)] [] (by kernel_rfl) (by kernel_rfl) (fun c a d v w h => by cases d <;> exact h) SA.out.1 ?_
                simp only [bits_, bitOf, List.getElem?_cons_zero, List.getElem?_cons_succ, List.contains_nil]
                repeat (first | (refine bits_take (v := ?_) (by rfl) ?_ ?_; rotate_left; (· intro w' hS; obtain ⟨⟨s0, s1, s2, s3, s4, s5⟩, s6⟩ := hS; go_simp; (try (go_ints; try go_simp)); with_reducible rfl); (try simp only [Act.put, List.setIfInBounds_toArray, List.set_cons_zero, List.set_cons_succ])) | (refine bits_skip (by rfl) ?_; (try simp only [Act.put, List.setIfInBounds_toArray, List.set_cons_zero, List.set_cons_succ])))
                refine bits_nil ?_
                refine Met.intro ?_
                go_step
                go_meet
                exact ⟨congrArg Value.bool (((decide_eq_true ⟨by rw [HP.out]; exact eq_of_beq hw1, .inl HLST.out⟩).symm).trans HT.out), rfl⟩
              · have hl1 : ((q : Int) == 0) = false := beq_eq_false_iff_ne.2 (by omega)
                have hl2 : (q == 0) = false := beq_eq_false_iff_ne.2 (by omega)
                obtain ⟨k, hk⟩ : ∃ k, k = q - 1 := ⟨_, rfl⟩
                have hki : (q : Int) - 1 = k := by omega
                have hkn : k < n := by omega
                have hk0 : (0 : Int) ≤ (k : Int) := by omega
                have hk1 : (k : Int) < n := by omega
                obtain ⟨y, hy⟩ : ∃ y, pat ps k = y := ⟨_, rfl⟩
                have HY : Hid (pat ps (q - 1) = y) := by rw [← hk]; exact hy
                have SB : Hid (PAt wz.drew g (q * 7) p ∧ PAt wz.drew g (k * 7) y) := ⟨SA.out.1, by rw [← hy]; exact SA.out.2 k hkn⟩
                have hb1 := HB.out k hkn
                have hb0 := HB.out q (by omega)
                rw [HP.out] at hb0
                rw [hy] at hb1
                have hlast' := Lib.hid hlast
                clear hy hlast hk
                cases hw2 : (y.c.w != 1) with
                | true =>
                  refine wp_region_bits_at (S := fun w' => PAt w' g (q * 7) p ∧ PAt w' g (k * 7) y) [(0, true), (1, true), (2, true), (3, true), (4, true), (5, true), (6, true), (7, true), (8, true), (9, true), (10, true), (11, true), (12, true), (13, true), (14, true), (15, true), (16, true), (17, true), (18, true), (19, true), (20, true), (21, true), (22, true), (23, true), (24, true), (25, true), (26, true), (27, true), (28, true), (29, true), (30, true), (31, true), (32, true), (33, true), (34, true), (35, true)] [] (by kernel_rfl) (by kernel_rfl) (fun c a d v w h => by cases d <;> exact h) SB.out ?_
                  simp only [bits_, bitOf, List.getElem?_cons_zero, List.getElem?_cons_succ, List.contains_nil]
                  repeat (first | (refine bits_take (v := ?_) (by rfl) ?_ ?_; rotate_left; (· intro w' hS; obtain ⟨⟨⟨s0, s1, s2, s3, s4, s5⟩, s6⟩, ⟨t0, t1, t2, t3, t4, t5⟩, t6⟩ := hS; go_simp; (try (go_ints; try go_simp)); with_reducible rfl); (try simp only [Act.put, List.setIfInBounds_toArray, List.set_cons_zero, List.set_cons_succ])) | (refine bits_skip (by rfl) ?_; (try simp only [Act.put, List.setIfInBounds_toArray, List.set_cons_zero, List.set_cons_succ])))
                  refine bits_nil ?_
                  refine Met.intro ?_
                  go_step
                  go_meet
                  exact ⟨congrArg Value.bool (((decide_eq_true ⟨by rw [HP.out]; exact eq_of_beq hw1, .inr (.inl (by rw [HY.out]; exact bne_iff_ne.1 hw2))⟩).symm).trans HT.out), rfl⟩
                | false =>
                  cases hs2 : (y.s != p.s - 1) with
                  | true =>
                    refine wp_region_bits_at (S := fun w' => PAt w' g (q * 7) p ∧ PAt w' g (k * 7) y) [(0, true), (1, true), (2, true), (3, true), (4, true), (5, true), (6, true), (7, true), (8, true), (9, true), (10, true), (11, true), (12, true), (13, true), (14, true), (15, true), (16, true), (17, true), (18, true), (19, true), (20, true), (21, true), (22, true), (23, true), (24, true), (25, true), (26, true), (27, true), (28, true), (29, true), (30, true), (31, true), (32, true), (33, true), (34, true), (35, true)] [] (by kernel_rfl) (by kernel_rfl) (fun c a d v w h => by cases d <;> exact h) SB.out ?_
                    simp only [bits_, bitOf, List.getElem?_cons_zero, List.getElem?_cons_succ, List.contains_nil]
                    repeat (first | (refine bits_take (v := ?_) (by rfl) ?_ ?_; rotate_left; (· intro w' hS; obtain ⟨⟨⟨s0, s1, s2, s3, s4, s5⟩, s6⟩, ⟨t0, t1, t2, t3, t4, t5⟩, t6⟩ := hS; go_simp; (try (go_ints; try go_simp)); with_reducible rfl); (try simp only [Act.put, List.setIfInBounds_toArray, List.set_cons_zero, List.set_cons_succ])) | (refine bits_skip (by rfl) ?_; (try simp only [Act.put, List.setIfInBounds_toArray, List.set_cons_zero, List.set_cons_succ])))
                    refine bits_nil ?_
                    refine Met.intro ?_
                    go_step
                    go_meet
                    exact ⟨congrArg Value.bool (((decide_eq_true ⟨by rw [HP.out]; exact eq_of_beq hw1, .inr (.inr (by rw [HY.out, HP.out]; exact bne_iff_ne.1 hs2))⟩).symm).trans HT.out), rfl⟩
                  | false =>
                    refine wp_region_bits_at (S := fun w' => PAt w' g (q * 7) p ∧ PAt w' g (k * 7) y) [(0, true), (1, true), (2, true), (3, true), (4, true), (5, true), (6, true), (7, true), (8, true), (9, true), (10, true), (11, true), (12, true), (13, true), (14, true), (15, true), (16, true), (17, true), (18, true), (19, true), (20, true), (21, true), (22, true), (23, true), (24, true), (25, true), (26, true), (27, true), (28, true), (29, true), (30, true), (31, true), (32, true), (33, true), (34, true), (35, true)] [] (by kernel_rfl) (by kernel_rfl) (fun c a d v w h => by cases d <;> exact h) SB.out ?_
                    simp only [bits_, bitOf, List.getElem?_cons_zero, List.getElem?_cons_succ, List.contains_nil]
                    repeat (first | (refine bits_take (v := ?_) (by rfl) ?_ ?_; rotate_left; (· intro w' hS; obtain ⟨⟨⟨s0, s1, s2, s3, s4, s5⟩, s6⟩, ⟨t0, t1, t2, t3, t4, t5⟩, t6⟩ := hS; go_simp; (try (go_ints; try go_simp)); with_reducible rfl); (try simp only [Act.put, List.setIfInBounds_toArray, List.set_cons_zero, List.set_cons_succ])) | (refine bits_skip (by rfl) ?_; (try simp only [Act.put, List.setIfInBounds_toArray, List.set_cons_zero, List.set_cons_succ])))
                    refine bits_nil ?_
                    refine Met.intro ?_
                    go_step
                    go_meet
                    exact ⟨congrArg Value.bool (((decide_eq_false fun k => by unfold M2 at k; rw [HY.out, HP.out] at k; rcases k.2 with k | k | k; exact hlast'.out k; exact absurd (bne_iff_ne.2 k) (by rw [hw2]; decide); exact absurd (bne_iff_ne.2 k) (by rw [hs2]; decide)).symm).trans HT.out), rfl⟩
          case rest =>
            obtain ⟨rfl, rfl⟩ := hcut
            cases t2 with
            | true =>
              have hm2 := of_decide_eq_true HT.out
              have HM := Lib.hid (mendF_2 hm2)
              have HWD : Hid (MRelX ps w n q p.c wz.drew) := ⟨Hwz.out.1, below_drewN Hwz.out.2 1⟩
              obtain ⟨⟨e0, e1, e2, e3, e4, e5⟩, e6⟩ := SA.out.1
              clear hm2
              go_wp2_with fail
              refine (ref_blank_any p.c.f p.c.b p.c.a p.c.l _).mono ?_
              rintro e wx ⟨rfl, bx⟩
              have HWX : Hid (MRelX ps w n q p.c wx) := HWD.out.below bx
              clear bx e0 e1 e2 e3 e4 e5 e6
              go_wp2_with (first
                | (refine gstore_list rfl _ _ rfl (d := blank p.c.b) rfl rfl HWX.out.1 hq ?_; intro wv r5 g5; have Hwv : Hid (CRow wv w.heap.size (.slice (some ⟨w.heap.size, 0, none⟩) n n) ((mendK ps q).set q (blank p.c.b)) ∧ Below w.heap.size w wv) := ⟨(by first | exact r5 | (rw [List.set_set] at r5; exact r5)), below_grown HWX.out.2 g5 (Nat.le_refl _) HWX.out.2.size⟩; clear r5 g5)
                | go_in)
              go_roundw
              case rel => exact ⟨q + 1, HQ.out, by go_num, by rw [← HNX.out, HM.out, HP.out]; exact Hwv.out.1, Hwv.out.2⟩
              case measure => have := HQ.out; simp [intOf]; omega
            | false =>
              have hm2 := of_decide_eq_false HT.out
              have HM := Lib.hid (mendF_0 HM1.out hm2)
              clear hm2
              go_wp2_with fail
              go_roundw
              case rel => exact ⟨q + 1, HQ.out, by go_num, by rw [← HNX.out, HM.out, HP.out]; exact Hwz.out.1, below_drewN Hwz.out.2 1⟩
              case measure => have := HQ.out; simp [intOf]; omega
    · obtain rfl : q = n := by omega
      clear hq
      go_wp2_with fail
      go_ret
      exact ⟨_, rfl, by rw [← mendK_all, HN.out]; exact HR.out.1, HR.out.2⟩
end Go.Proofs.YtlhcehealjdbdaaDoor
