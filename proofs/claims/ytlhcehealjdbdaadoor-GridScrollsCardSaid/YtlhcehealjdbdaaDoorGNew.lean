/- A new grid. -/
import Derived.Test.YtlhcehealjdbdaaDoorGBase
import Derived.Deep.DeepCutAuto
namespace Go.Proofs.YtlhcehealjdbdaaDoor
open Go.RowKit
set_option linter.unusedSimpArgs false
set_option linter.unusedVariables false
attribute [local go_sem] alloc_drewN setCell_drewN


def NewPost (c r : Int) (w : World) (e : Ending) (w' : World) : Prop :=
  if fitsB c r = true then ∃ v' n, e = .returned (.tuple #[.agg #[.int .i64 c, .int .i64 r, v'], .int .i64 0]) ∧ c * r = ((n : Nat) : Int) ∧ CRow w' w.heap.size v' (List.replicate n (blank 0)) ∧ Below w.heap.size w w'
  else e = .returned (.tuple #[.agg #[.int .i64 0, .int .i64 0, .slice none 0 0], .int .i64 1]) ∧ Below w.heap.size w w'
theorem fillP_rep {n : Nat} {d : Glyph} : fillP (List.replicate n g0) 0 d n = List.replicate n d := by
  refine gext (by rw [fillP_len, List.length_replicate, List.length_replicate]) fun j hj => ?_
  rw [fillP_len, List.length_replicate] at hj
  show at_ (fillP (List.replicate n g0) 0 d n) j = at_ (List.replicate n d) j
  rw [fill_at (by simp), if_pos (by omega)]
  unfold at_
  rw [List.getD_eq_getElem?_getD, List.getElem?_replicate, if_pos hj]
  rfl
/-- The loop that lays blanks: the row, the answer's record, the grid's record. -/
def NRel (w : World) (gr C R n q : Nat) (wr : World) : Prop :=
  CRow wr w.heap.size (.slice (some ⟨w.heap.size + 1, 0, none⟩) n n) (fillP (List.replicate n g0) 0 (blank 0) q) ∧ Own wr w.heap.size 49 #[.int .i64 0, .int .i64 0, .slice none 0 0] ∧ Own wr (gr) 49 #[.int .i64 C, .int .i64 R, .slice (some ⟨w.heap.size + 1, 0, none⟩) n n] ∧ Below w.heap.size w wr
theorem NRel.drew {w : World} {gr C R n q : Nat} {wr : World} (h : NRel w gr C R n q wr) : NRel w gr C R n q wr.drew := ⟨h.1, h.2.1, h.2.2.1, below_drewN h.2.2.2 1⟩
theorem NRel.below {w : World} {gr C R n q : Nat} {w1 w2 : World} (h : NRel w gr C R n q w1) (b : Below w1.heap.size w1 w2) : NRel w gr C R n q w2 := ⟨h.1.below b, h.2.1.below b h.2.1.lt, h.2.2.1.below b h.2.2.1.lt, h.2.2.2.trans (b.mono h.2.2.2.size)⟩
theorem NRel.next {w : World} {gr C R n q : Nat} {w1 w2 : World} (hgr : w.heap.size + 1 < gr) (h : NRel w gr C R n q w1) (r5 : CRow w2 w.heap.size (.slice (some ⟨w.heap.size + 1, 0, none⟩) n n) ((fillP (List.replicate n g0) 0 (blank 0) q).set q (blank 0))) (g5 : w1.grownBy w2 (some (w.heap.size + 1))) : NRel w gr C R n (q + 1) w2 :=
  ⟨by rw [fillP, Nat.zero_add]; exact r5, h.2.1.grown g5 (fun e => by injection e with e; omega), h.2.2.1.grown g5 (fun e => by injection e with e; omega), below_grown h.2.2.2 g5 (by omega) h.2.2.2.size⟩
/-- A row is left by what is written elsewhere. -/
theorem crow_past {w w' : World} {base g n c b : Nat} {xs : List Glyph} (h : CRow w base (.slice (some ⟨g, 0, none⟩) n c) xs) (k : w.grownBy w' (some b)) (hne : some g ≠ some b) : CRow w' base (.slice (some ⟨g, 0, none⟩) n c) xs := World.ownsRow.kept h k (.inr (by exact hne))
theorem NRel.start {w w0 w1 : World} {gr C R n : Nat} (hz0 : w0.heap.size = w.heap.size + 1) (r1 : CRow w1 w0.heap.size (.slice (some ⟨w0.heap.size, 0, none⟩) n n) (List.replicate n g0)) (o1 : Own w1 w.heap.size 49 #[.int .i64 0, .int .i64 0, .slice none 0 0]) (b1 : Below w.heap.size w w1) (hs : w1.heap.size = gr) :
    NRel w gr C R n 0 (w1.alloc (.cells #[.int .i64 C, .int .i64 R, .slice (some ⟨w.heap.size + 1, 0, none⟩) n n] 49)) := by
  subst hs
  rw [hz0] at r1
  exact ⟨(r1.alloc _).up (by omega), o1.alloc _, Own.new w1 49 _, b1.alloc b1.size _⟩
set_option maxRecDepth 10000 in
set_option maxHeartbeats 2000000 in
theorem new_any (c r : Int) (w : World) : Calls Tryd.prog 31 #[.int .i64 c, .int .i64 r] w (NewPost c r w) := by
  obtain ⟨fb, hfb⟩ : ∃ fb, fitsB c r = fb := ⟨_, rfl⟩
  have HFB := Lib.hid hfb
  have hown := Own.new w 49 #[.int .i64 0, .int .i64 0, .slice none 0 0]
  have B0 : Hid (Below w.heap.size w (w.alloc (.cells #[.int .i64 0, .int .i64 0, .slice none 0 0] 49))) := (Below.refl _ _).alloc (Nat.le_refl _) _
  have O0 := Lib.hid hown
  have hz0 : (w.alloc (.cells #[.int .i64 0, .int .i64 0, .slice none 0 0] 49)).heap.size = w.heap.size + 1 := by simp
  cases fb with
  | false =>
    clear hfb
    go_enter Tryd.func31, Tryd.ntmps31
    go_wp2_with fail
    refine (fits_any c r _).mono ?_
    rw [HFB.out]
    rintro e w' ⟨rfl, rfl⟩
    go_wp2_with (first
      | (refine gvstore_list rfl _ _ rfl (c := 0) (r := 0) (sa := none) (sn := 0) (sc := 0) rfl rfl hown ?_; intro w1 o1 g1; have B1 : Hid (Below w.heap.size w w1) := below_grown B0.out g1 (Nat.le_refl _) B0.out.size; have O1 := Lib.hid o1; clear o1 g1 hown)
      | go_in)
    have g0 := Own.cell O1.out 0
    have g1 := Own.cell O1.out 1
    have g2 := Own.cell O1.out 2
    simp only [List.getElem?_toArray, List.getElem?_cons_zero, List.getElem?_cons_succ] at g0 g1 g2
    (try simp only [Exit.inBlock, Exit.then])
    refine bodyPost_ret (v := .tuple #[.agg #[.int .i64 0, .int .i64 0, .slice none 0 0], .int .i64 1]) (by simp [results, Tryd.results31, go_sem, g0, g1, g2]) rfl ?_
    unfold NewPost
    rw [if_neg (by rw [HFB.out]; decide)]
    exact ⟨rfl, B1.out⟩
  | true =>
    obtain ⟨a1, a2, a3, a4⟩ := fits_iff.1 hfb
    clear hfb
    obtain ⟨C, rfl⟩ : ∃ C : Nat, c = C := ⟨c.toNat, by omega⟩
    obtain ⟨R, rfl⟩ : ∃ R : Nat, r = R := ⟨r.toNat, by omega⟩
    have hb := mul_bound (c := C) (r := R) (by omega) (by omega)
    obtain ⟨n, hn⟩ : ∃ n, C * R = n := ⟨_, rfl⟩
    have k1 : (C : Int) * (R : Int) = (n : Int) := by rw [← hn]; exact (Int.natCast_mul C R).symm
    have K1 := Lib.hid k1
    rw [hn] at hb
    go_enter Tryd.func31, Tryd.ntmps31
    go_wp2_with fail
    refine (fits_any C R _).mono ?_
    rw [HFB.out]
    rintro e w' ⟨rfl, rfl⟩
    generalize w.alloc (.cells #[.int .i64 0, .int .i64 0, .slice none 0 0] 49) = w0 at B0 O0 hz0 hown ⊢
    go_upto_region 4 with (first
      | (at_make; refine wpList_make_full _ rfl _ _ 29 rfl w0.heap.size 28 _ _ 6 Tryd.underlying29 ginfoE gzeroE (by kernel_rfl) .i64 .i64 _ _ n rfl rfl rfl rfl (by rw [gbytes]; omega) (by unfold maxLen; omega) (Nat.le_refl _) ?_; intro w1 o1 g1; have R1 := Lib.hid (gmake_row o1); have D1 := gbelow_none g1; have B1 : Hid (Below w.heap.size w w1) := B0.out.trans (D1.mono B0.out.size); have O1 := Lib.hid (O0.out.below D1 (by omega)); have hw1 := Own.new w1 49 #[.int .i64 0, .int .i64 0, .slice none 0 0]; have hgr : w.heap.size + 1 < w1.heap.size := (by have := (World.ownsRow.lt o1 w0.heap.size rfl).2; omega); clear o1 D1 g1 hown)
      | go_in)
    have HL0 : Hid (NRel w w1.heap.size C R n 0 (w1.alloc (.cells #[.int .i64 C, .int .i64 R, .slice (some ⟨w.heap.size + 1, 0, none⟩) n n] 49))) := NRel.start hz0 R1.out O1.out B1.out rfl
    clear R1 O1 B1 hw1
    generalize w1.alloc (.cells #[.int .i64 C, .int .i64 R, .slice (some ⟨w.heap.size + 1, 0, none⟩) n n] 49) = w2 at HL0 ⊢
    obtain ⟨g0, g1, g2⟩ : _ ∧ _ ∧ _ := ⟨Own.cell HL0.out.2.2.1 0, Own.cell HL0.out.2.2.1 1, Own.cell HL0.out.2.2.1 2⟩
    simp only [List.getElem?_toArray, List.getElem?_cons_zero, List.getElem?_cons_succ] at g0 g1 g2
    generalize w1.heap.size = gr at HL0 hgr g0 g1 g2 ⊢
    go_wp2_with fail
    clear g0 g1 g2
    go_loopw [23] (fun v wr => ∃ q : Nat, q ≤ n ∧ v = .int .i64 q ∧ Hid (NRel w gr C R n q wr)) (fun v _ => n - (intOf v).toNat)
    case atStart => exact ⟨0, by omega, rfl, HL0⟩
    case round =>
      obtain ⟨q, hq1, rfl, HR⟩ := hrel
      clear HL0
      by_cases hqn : q < n
      · have hi0 : (0 : Int) ≤ (q : Int) := by omega
        have hi1 : (q : Int) < (n : Int) := by omega
        have S0 : Hid (wr.drew.cell? ⟨gr, 2, none⟩ = some (.slice (some ⟨w.heap.size + 1, 0, none⟩) n n)) := Own.cell HR.out.2.2.1 2
        go_wp2_with fail
        refine wp_region_bits_at (S := fun w' => w'.cell? ⟨gr, 2, none⟩ = some (.slice (some ⟨w.heap.size + 1, 0, none⟩) n n)) [(0, true), (1, true), (2, true), (3, true), (4, false), (5, true), (6, false)] [6] (by kernel_rfl) (by kernel_rfl) (fun c a d v w h => by cases d <;> exact h) S0.out ?_
        simp only [bits_, bitOf, List.getElem?_cons_zero, List.getElem?_cons_succ, List.contains_nil, List.contains_cons, Nat.reduceBEq, Bool.or_false]
        repeat (first | (refine bits_take (v := ?_) (by rfl) ?_ ?_; rotate_left; (· intro w' hS; have s0 := hS; go_simp; (try (go_ints; try go_simp)); with_reducible rfl); (try simp only [Act.put, List.setIfInBounds_toArray, List.set_cons_zero, List.set_cons_succ])) | (refine bits_skip (by rfl) ?_; (try simp only [Act.put, List.setIfInBounds_toArray, List.set_cons_zero, List.set_cons_succ])))
        refine bits_eff (by rfl) (fun K hK => ?_)
        go_simp
        (try go_ints)
        refine (blank_any 0 0 0 0 _).mono ?_
        rintro e wx ⟨rfl, bx⟩
        have HX : Hid (NRel w gr C R n q wx) := (HR.out.drew).below bx
        have SX : Hid (wx.cell? ⟨gr, 2, none⟩ = some (.slice (some ⟨w.heap.size + 1, 0, none⟩) n n)) := Own.cell HX.out.2.2.1 2
        refine hK _ _ ?_ ?_
        · exact SX.out
        clear hK K
        (try simp only [Act.put, List.setIfInBounds_toArray, List.set_cons_zero, List.set_cons_succ])
        repeat (first | (refine bits_take (v := ?_) (by rfl) ?_ ?_; rotate_left; (· intro w' hS; have s0 := hS; go_simp; (try (go_ints; try go_simp)); with_reducible rfl); (try simp only [Act.put, List.setIfInBounds_toArray, List.set_cons_zero, List.set_cons_succ])) | (refine bits_skip (by rfl) ?_; (try simp only [Act.put, List.setIfInBounds_toArray, List.set_cons_zero, List.set_cons_succ])))
        refine bits_tail (by rfl) (fun K hK => ?_)
        refine gstore_op _ _ rfl (d := blank 0) rfl rfl HX.out.1 hqn fun wy r5 g5 => ?_
        have HY : Hid (NRel w gr C R n (q + 1) wy) := HX.out.next hgr r5 g5
        refine hK _ _ ?_
        clear hK K
        (try simp only [Act.put])
        repeat (first | (refine bits_take (v := ?_) (by rfl) ?_ ?_; rotate_left; (· intro w' hS; have s0 := hS; go_simp; (try (go_ints; try go_simp)); with_reducible rfl); (try simp only [Act.put, List.setIfInBounds_toArray, List.set_cons_zero, List.set_cons_succ])) | (refine bits_skip (by rfl) ?_; (try simp only [Act.put, List.setIfInBounds_toArray, List.set_cons_zero, List.set_cons_succ])))
        refine bits_nil ?_
        go_wp2_with fail
        go_roundw
        case rel => exact ⟨q + 1, by omega, by go_num, HY⟩
        case measure => simp [intOf]; omega
      · obtain rfl : q = n := by omega
        have hown := HR.out.2.1
        have hC := Lib.hid HR.out.1
        have hB := Lib.hid HR.out.2.2.2
        have g0 := Own.cell HR.out.2.2.1 0
        have g1 := Own.cell HR.out.2.2.1 1
        have g2 := Own.cell HR.out.2.2.1 2
        simp only [List.getElem?_toArray, List.getElem?_cons_zero, List.getElem?_cons_succ] at g0 g1 g2
        go_wp2_with (first
          | (refine gvstore_list rfl _ _ rfl (c := C) (r := R) (sa := some ⟨w.heap.size + 1, 0, none⟩) (sn := q) (sc := q) rfl rfl hown ?_; intro w5 o5 g5; have O5 := Lib.hid o5; have C5 : Hid (CRow w5 w.heap.size (.slice (some ⟨w.heap.size + 1, 0, none⟩) q q) (List.replicate q (blank 0))) := crow_past (by rw [← fillP_rep]; exact hC.out) g5 (fun e => by injection e with e; omega); have B5 : Hid (Below w.heap.size w w5) := below_grown hB.out g5 (Nat.le_refl _) hB.out.size; clear o5 g5)
          | go_in)
        clear g0 g1 g2
        have g0 := Own.cell O5.out 0
        have g1 := Own.cell O5.out 1
        have g2 := Own.cell O5.out 2
        simp only [List.getElem?_toArray, List.getElem?_cons_zero, List.getElem?_cons_succ] at g0 g1 g2
        (try simp only [Exit.inBlock, Exit.then])
        refine bodyPost_ret (v := .tuple #[.agg #[.int .i64 C, .int .i64 R, .slice (some ⟨w.heap.size + 1, 0, none⟩) q q], .int .i64 0]) (by simp [results, Tryd.results31, go_sem, g0, g1, g2]) rfl ?_
        unfold NewPost
        rw [if_pos HFB.out]
        exact ⟨_, q, rfl, K1.out, C5.out, B5.out⟩
end Go.Proofs.YtlhcehealjdbdaaDoor
