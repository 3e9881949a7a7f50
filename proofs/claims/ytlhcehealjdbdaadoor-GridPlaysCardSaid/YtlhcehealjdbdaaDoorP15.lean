/- Part 15 of the texts that GridPlays stands on, one behind the other. -/
import Derived.Test.YtlhcehealjdbdaaDoorP6
import Derived.Deep.DeepCutAuto
import Derived.Test.YtlhcehealjdbdaaDoorP9
import Derived.Test.YtlhcehealjdbdaaDoorP8
import Derived.Test.YtlhcehealjdbdaaDoorP7
/- A new grid. -/
namespace Go.Proofs.YtlhcehealjdbdaaDoor
open Go.RowKit
set_option linter.unusedSimpArgs false
set_option linter.unusedVariables false
attribute [local go_sem] alloc_drewN setCell_drewN


def NewPost (c r : Int) (w : World) (e : Ending) (w' : World) : Prop :=
  if fitsB c r = true then ∃ v' n, e = .returned (.tuple #[.agg #[.int .i64 c, .int .i64 r, v'], .int .i64 0]) ∧ c * r = ((n : Nat) : Int) ∧ CRow w' w.heap.size v' (List.replicate n (blank 0)) ∧ Below w.heap.size w w'
  else e = .returned (.tuple #[.agg #[.int .i64 0, .int .i64 0, .slice none 0 0], .int .i64 1]) ∧ Below w.heap.size w w'
theorem fillP_rep {n : Nat} {d : Glyph} : fillP (List.replicate n g0) 0 d n = List.replicate n d := by
  refine gext (by rw [fillP_len, List.length_replicate, List.length_replicate]) fun j hj => ?_
  rw [fillP_len, List.length_replicate] at hj
  show at_ (fillP (List.replicate n g0) 0 d n) j = at_ (List.replicate n d) j
  rw [fill_at (by simp), if_pos (by omega)]
  unfold at_
  rw [List.getD_eq_getElem?_getD, List.getElem?_replicate, if_pos hj]
  rfl
/-- The loop that lays blanks: the row, the answer's record, the grid's record. -/
def NRel (w : World) (gr C R n q : Nat) (wr : World) : Prop :=
  CRow wr w.heap.size (.slice (some ⟨w.heap.size + 1, 0, none⟩) n n) (fillP (List.replicate n g0) 0 (blank 0) q) ∧ Own wr w.heap.size 49 #[.int .i64 0, .int .i64 0, .slice none 0 0] ∧ Own wr (gr) 49 #[.int .i64 C, .int .i64 R, .slice (some ⟨w.heap.size + 1, 0, none⟩) n n] ∧ Below w.heap.size w wr
theorem NRel.drew {w : World} {gr C R n q : Nat} {wr : World} (h : NRel w gr C R n q wr) : NRel w gr C R n q wr.drew := ⟨h.1, h.2.1, h.2.2.1, below_drewN h.2.2.2 1⟩
theorem NRel.below {w : World} {gr C R n q : Nat} {w1 w2 : World} (h : NRel w gr C R n q w1) (b : Below w1.heap.size w1 w2) : NRel w gr C R n q w2 := ⟨h.1.below b, h.2.1.below b h.2.1.lt, h.2.2.1.below b h.2.2.1.lt, h.2.2.2.trans (b.mono h.2.2.2.size)⟩
theorem NRel.next {w : World} {gr C R n q : Nat} {w1 w2 : World} (hgr : w.heap.size + 1 < gr) (h : NRel w gr C R n q w1) (r5 : CRow w2 w.heap.size (.slice (some ⟨w.heap.size + 1, 0, none⟩) n n) ((fillP (List.replicate n g0) 0 (blank 0) q).set q (blank 0))) (g5 : w1.grownBy w2 (some (w.heap.size + 1))) : NRel w gr C R n (q + 1) w2 :=
  ⟨by rw [fillP, Nat.zero_add]; exact r5, h.2.1.grown g5 (fun e => by injection e with e; omega), h.2.2.1.grown g5 (fun e => by injection e with e; omega), below_grown h.2.2.2 g5 (by omega) h.2.2.2.size⟩
/-- A row is left by what is written elsewhere. -/
theorem crow_past {w w' : World} {base g n c b : Nat} {xs : List Glyph} (h : CRow w base (.slice (some ⟨g, 0, none⟩) n c) xs) (k : w.grownBy w' (some b)) (hne : some g ≠ some b) : CRow w' base (.slice (some ⟨g, 0, none⟩) n c) xs := World.ownsRow.kept h k (.inr (by exact hne))
theorem NRel.start {w w0 w1 : World} {gr C R n : Nat} (hz0 : w0.heap.size = w.heap.size + 1) (r1 : CRow w1 w0.heap.size (.slice (some ⟨w0.heap.size, 0, none⟩) n n) (List.replicate n g0)) (o1 : Own w1 w.heap.size 49 #[.int .i64 0, .int .i64 0, .slice none 0 0]) (b1 : Below w.heap.size w w1) (hs : w1.heap.size = gr) :
    NRel w gr C R n 0 (w1.alloc (.cells #[.int .i64 C, .int .i64 R, .slice (some ⟨w.heap.size + 1, 0, none⟩) n n] 49)) := by
  subst hs
  rw [hz0] at r1
  exact ⟨(r1.alloc _).up (by omega), o1.alloc _, Own.new w1 49 _, b1.alloc b1.size _⟩
set_option maxRecDepth 10000 in
set_option maxHeartbeats 2000000 in
theorem new_any (c r : Int) (w : World) : Calls Tryd.prog 31 #[.int .i64 c, .int .i64 r] w (NewPost c r w) := by
  obtain ⟨fb, hfb⟩ : ∃ fb, fitsB c r = fb := ⟨_, rfl⟩
  have HFB := Lib.hid hfb
  have hown := Own.new w 49 #[.int .i64 0, .int .i64 0, .slice none 0 0]
  have B0 : Hid (Below w.heap.size w (w.alloc (.cells #[.int .i64 0, .int .i64 0, .slice none 0 0] 49))) := (Below.refl _ _).alloc (Nat.le_refl _) _
  have O0 := Lib.hid hown
  have hz0 : (w.alloc (.cells #[.int .i64 0, .int .i64 0, .slice none 0 0] 49)).heap.size = w.heap.size + 1 := by simp
  cases fb with
  | false =>
    clear hfb
    go_enter Tryd.func31, Tryd.ntmps31
    go_wp2_with fail
    refine (fits_any c r _).mono ?_
    rw [HFB.out]
    rintro e w' ⟨rfl, rfl⟩
    go_wp2_with (first
      | (refine gvstore_list rfl _ _ rfl (c := 0) (r := 0) (sa := none) (sn := 0) (sc := 0) rfl rfl hown ?_; intro w1 o1 g1; have B1 : Hid (Below w.heap.size w w1) := below_grown B0.out g1 (Nat.le_refl _) B0.out.size; have O1 := Lib.hid o1; clear o1 g1 hown)
      | go_in)
    have g0 := Own.cell O1.out 0
    have g1 := Own.cell O1.out 1
    have g2 := Own.cell O1.out 2
    simp only [List.getElem?_toArray, List.getElem?_cons_zero, List.getElem?_cons_succ] at g0 g1 g2
    (try simp only [Exit.inBlock, Exit.then])
    refine bodyPost_ret (v := .tuple #[.agg #[.int .i64 0, .int .i64 0, .slice none 0 0], .int .i64 1]) (by simp [results, Tryd.results31, go_sem, g0, g1, g2]) rfl ?_
    unfold NewPost
    rw [if_neg (by rw [HFB.out]; decide)]
    exact ⟨rfl, B1.out⟩
  | true =>
    obtain ⟨a1, a2, a3, a4⟩ := fits_iff.1 hfb
    clear hfb
    obtain ⟨C, rfl⟩ : ∃ C : Nat, c = C := ⟨c.toNat, by omega⟩
    obtain ⟨R, rfl⟩ : ∃ R : Nat, r = R := ⟨r.toNat, by omega⟩
    have hb := mul_bound (c := C) (r := R) (by omega) (by omega)
    obtain ⟨n, hn⟩ : ∃ n, C * R = n := ⟨_, rfl⟩
    have k1 : (C : Int) * (R : Int) = (n : Int) := by rw [← hn]; exact (Int.natCast_mul C R).symm
    have K1 := Lib.hid k1
    rw [hn] at hb
    go_enter Tryd.func31, Tryd.ntmps31
    go_wp2_with fail
    refine (fits_any C R _).mono ?_
    rw [HFB.out]
    rintro e w' ⟨rfl, rfl⟩
    generalize w.alloc (.cells #[.int .i64 0, .int .i64 0, .slice none 0 0] 49) = w0 at B0 O0 hz0 hown ⊢
    go_upto_region 4 with (first
      | (at_make; refine wpList_make_full _ rfl _ _ 29 rfl w0.heap.size 28 _ _ 6 Tryd.underlying29 ginfoE gzeroE (by kernel_rfl) .i64 .i64 _ _ n rfl rfl rfl rfl (by rw [gbytes]; omega) (by unfold maxLen; omega) (Nat.le_refl _) ?_; intro w1 o1 g1; have R1 := Lib.hid (gmake_row o1); have D1 := gbelow_none g1; have B1 : Hid (Below w.heap.size w w1) := B0.out.trans (D1.mono B0.out.size); have O1 := Lib.hid (O0.out.below D1 (by omega)); have hw1 := Own.new w1 49 #[.int .i64 0, .int .i64 0, .slice none 0 0]; have hgr : w.heap.size + 1 < w1.heap.size := (by have := (World.ownsRow.lt o1 w0.heap.size rfl).2; omega); clear o1 D1 g1 hown)
      | go_in)
    have HL0 : Hid (NRel w w1.heap.size C R n 0 (w1.alloc (.cells #[.int .i64 C, .int .i64 R, .slice (some ⟨w.heap.size + 1, 0, none⟩) n n] 49))) := NRel.start hz0 R1.out O1.out B1.out rfl
    clear R1 O1 B1 hw1
    generalize w1.alloc (.cells #[.int .i64 C, .int .i64 R, .slice (some ⟨w.heap.size + 1, 0, none⟩) n n] 49) = w2 at HL0 ⊢
    obtain ⟨g0, g1, g2⟩ : _ ∧ _ ∧ _ := ⟨Own.cell HL0.out.2.2.1 0, Own.cell HL0.out.2.2.1 1, Own.cell HL0.out.2.2.1 2⟩
    simp only [List.getElem?_toArray, List.getElem?_cons_zero, List.getElem?_cons_succ] at g0 g1 g2
    generalize w1.heap.size = gr at HL0 hgr g0 g1 g2 ⊢
    go_wp2_with fail
    clear g0 g1 g2
    go_loopw [23] (fun v wr => ∃ q : Nat, q ≤ n ∧ v = .int .i64 q ∧ Hid (NRel w gr C R n q wr)) (fun v _ => n - (intOf v).toNat)
    case atStart => exact ⟨0, by omega, rfl, HL0⟩
    case round =>
      obtain ⟨q, hq1, rfl, HR⟩ := hrel
      clear HL0
      by_cases hqn : q < n
      · have hi0 : (0 : Int) ≤ (q : Int) := by omega
        have hi1 : (q : Int) < (n : Int) := by omega
        have S0 : Hid (wr.drew.cell? ⟨gr, 2, none⟩ = some (.slice (some ⟨w.heap.size + 1, 0, none⟩) n n)) := Own.cell HR.out.2.2.1 2
        go_wp2_with fail
        refine wp_region_bits_at (S := fun w' => w'.cell? ⟨gr, 2, none⟩ = some (.slice (some ⟨w.heap.size + 1, 0, none⟩) n n)) [(0, true), (1, true), (2, true), (3, true), (4, false), (5, true), (6, false)] [6] (by kernel_rfl) (by kernel_rfl) (fun c a d v w h => by cases d <;> exact h) S0.out ?_
        simp only [bits_, bitOf, List.getElem?_cons_zero, List.getElem?_cons_succ, List.contains_nil, List.contains_cons, Nat.reduceBEq, Bool.or_false]
        repeat (first | (refine bits_take (v := ?_) (by rfl) ?_ ?_; rotate_left; (· intro w' hS; have s0 := hS; go_simp; (try (go_ints; try go_simp)); with_reducible rfl); (try simp only [Act.put, List.setIfInBounds_toArray, List.set_cons_zero, List.set_cons_succ])) | (refine bits_skip (by rfl) ?_; (try simp only [Act.put, List.setIfInBounds_toArray, List.set_cons_zero, List.set_cons_succ])))
        refine bits_eff (by rfl) (fun K hK => ?_)
        go_simp
        (try go_ints)
        refine (blank_any 0 0 0 0 _).mono ?_
        rintro e wx ⟨rfl, bx⟩
        have HX : Hid (NRel w gr C R n q wx) := (HR.out.drew).below bx
        have SX : Hid (wx.cell? ⟨gr, 2, none⟩ = some (.slice (some ⟨w.heap.size + 1, 0, none⟩) n n)) := Own.cell HX.out.2.2.1 2
        refine hK _ _ ?_ ?_
        · exact SX.out
        clear hK K
        (try simp only [Act.put, List.setIfInBounds_toArray, List.set_cons_zero, List.set_cons_succ])
        repeat (first | (refine bits_take (v := ?_) (by rfl) ?_ ?_; rotate_left; (· intro w' hS; have s0 := hS; go_simp; (try (go_ints; try go_simp)); with_reducible rfl); (try simp only [Act.put, List.setIfInBounds_toArray, List.set_cons_zero, List.set_cons_succ])) | (refine bits_skip (by rfl) ?_; (try simp only [Act.put, List.setIfInBounds_toArray, List.set_cons_zero, List.set_cons_succ])))
        refine bits_tail (by rfl) (fun K hK => ?_)
        refine gstore_op _ _ rfl (d := blank 0) rfl rfl HX.out.1 hqn fun wy r5 g5 => ?_
        have HY : Hid (NRel w gr C R n (q + 1) wy) := HX.out.next hgr r5 g5
        refine hK _ _ ?_
        clear hK K
        (try simp only [Act.put])
        repeat (first | (refine bits_take (v := ?_) (by rfl) ?_ ?_; rotate_left; (· intro w' hS; have s0 := hS; go_simp; (try (go_ints; try go_simp)); with_reducible rfl); (try simp only [Act.put, List.setIfInBounds_toArray, List.set_cons_zero, List.set_cons_succ])) | (refine bits_skip (by rfl) ?_; (try simp only [Act.put, List.setIfInBounds_toArray, List.set_cons_zero, List.set_cons_succ])))
        refine bits_nil ?_
        go_wp2_with fail
        go_roundw
        case rel => exact ⟨q + 1, by omega, by go_num, HY⟩
        case measure => simp [intOf]; omega
      · obtain rfl : q = n := by omega
        have hown := HR.out.2.1
        have hC := Lib.hid HR.out.1
        have hB := Lib.hid HR.out.2.2.2
        have g0 := Own.cell HR.out.2.2.1 0
        have g1 := Own.cell HR.out.2.2.1 1
        have g2 := Own.cell HR.out.2.2.1 2
        simp only [List.getElem?_toArray, List.getElem?_cons_zero, List.getElem?_cons_succ] at g0 g1 g2
        go_wp2_with (first
          | (refine gvstore_list rfl _ _ rfl (c := C) (r := R) (sa := some ⟨w.heap.size + 1, 0, none⟩) (sn := q) (sc := q) rfl rfl hown ?_; intro w5 o5 g5; have O5 := Lib.hid o5; have C5 : Hid (CRow w5 w.heap.size (.slice (some ⟨w.heap.size + 1, 0, none⟩) q q) (List.replicate q (blank 0))) := crow_past (by rw [← fillP_rep]; exact hC.out) g5 (fun e => by injection e with e; omega); have B5 : Hid (Below w.heap.size w w5) := below_grown hB.out g5 (Nat.le_refl _) hB.out.size; clear o5 g5)
          | go_in)
        clear g0 g1 g2
        have g0 := Own.cell O5.out 0
        have g1 := Own.cell O5.out 1
        have g2 := Own.cell O5.out 2
        simp only [List.getElem?_toArray, List.getElem?_cons_zero, List.getElem?_cons_succ] at g0 g1 g2
        (try simp only [Exit.inBlock, Exit.then])
        refine bodyPost_ret (v := .tuple #[.agg #[.int .i64 C, .int .i64 R, .slice (some ⟨w.heap.size + 1, 0, none⟩) q q], .int .i64 0]) (by simp [results, Tryd.results31, go_sem, g0, g1, g2]) rfl ?_
        unfold NewPost
        rw [if_pos HFB.out]
        exact ⟨_, q, rfl, K1.out, C5.out, B5.out⟩
end Go.Proofs.YtlhcehealjdbdaaDoor
/- A grid of another size. -/
namespace Go.Proofs.YtlhcehealjdbdaaDoor
open Go.RowKit
set_option linter.unusedSimpArgs false
set_option linter.unusedVariables false
attribute [local go_sem] alloc_drewN setCell_drewN


def fixAt (X : List Glyph) (i : Nat) : List Glyph := if (at_ X i).w = 1 then X.set i (blank (at_ X i).b) else X
def partP (X : List Glyph) (d : Nat) (l : List Glyph) (m : Nat) : List Glyph := X.take d ++ l.take m ++ X.drop (d + m)
/-- Behind k rows. -/
def rzF (C C2 R2 : Nat) (xs : List Glyph) : Nat → List Glyph
  | 0 => List.replicate (C2 * R2) (blank 0)
  | k + 1 => fixAt (partP (rzF C C2 R2 xs k) (k * C2) (rowOf C k xs) (min C C2)) (k * C2 + min C C2 - 1)
noncomputable def resizeP (c r : Int) (xs : List Glyph) (c2 r2 : Int) : List Glyph := if (fitsB c2 r2 && gridMay c r xs) = true then rzF c.toNat c2.toNat r2.toNat xs (min r.toNat r2.toNat) else []
noncomputable def rzI (c r : Int) (xs : List Glyph) (c2 r2 v : Int) : Int := if (fitsB c2 r2 && gridMay c r xs) = true then v else 0
theorem fix_len (X : List Glyph) (i : Nat) : (fixAt X i).length = X.length := by unfold fixAt; split <;> simp
theorem part_len {X l : List Glyph} {d m : Nat} (h : d + m ≤ X.length) (hm : m ≤ l.length) : (partP X d l m).length = X.length := by
  unfold partP
  rw [List.length_append, List.length_append, List.length_take, List.length_take, List.length_drop]
  omega
theorem rzF_len {C C2 R R2 : Nat} {xs : List Glyph} (hl : xs.length = C * R) : ∀ k, k ≤ R → k ≤ R2 → (rzF C C2 R2 xs k).length = C2 * R2
  | 0, _, _ => List.length_replicate
  | k + 1, h1, h2 => by
    have ih := rzF_len (C2 := C2) (R2 := R2) hl k (by omega) (by omega)
    have hm := mul_row (c := C2) (show k < R2 by omega)
    have h3 : (rowOf C k xs).length = C := row_len (r := R) hl (show k < R by omega)
    have h4 : k * C2 + min C C2 ≤ (rzF C C2 R2 xs k).length := by rw [ih]; omega
    have h5 : min C C2 ≤ (rowOf C k xs).length := by rw [h3]; omega
    rw [rzF, fix_len, part_len h4 h5]
    exact ih
def RzRel (w : World) (base g hb vc C R C2 R2 : Nat) (sa : Option Addr) (sn cp n : Nat) (ys : List Glyph) (wr : World) : Prop :=
  CRow wr base (.slice (some ⟨g, 0, none⟩) n vc) ys ∧ Own wr hb 49 #[.int .i64 C2, .int .i64 R2, .slice (some ⟨g, 0, none⟩) n vc] ∧ Own wr w.heap.size 49 #[.int .i64 C, .int .i64 R, .slice sa sn cp] ∧ Own wr (w.heap.size + 1) 49 #[.int .i64 0, .int .i64 0, .slice none 0 0] ∧ Below w.heap.size w wr
section
variable {w w1 w2 : World} {base g hb vc C R C2 R2 : Nat} {sa : Option Addr} {sn cp n : Nat} {ys zs : List Glyph}
theorem RzRel.below (h : RzRel w base g hb vc C R C2 R2 sa sn cp n ys w1) (k : Below w1.heap.size w1 w2) : RzRel w base g hb vc C R C2 R2 sa sn cp n ys w2 :=
  ⟨h.1.below k, h.2.1.below k h.2.1.lt, h.2.2.1.below k h.2.2.1.lt, h.2.2.2.1.below k h.2.2.2.1.lt, h.2.2.2.2.trans (k.mono h.2.2.2.2.size)⟩
theorem RzRel.put (h : RzRel w base g hb vc C R C2 R2 sa sn cp n ys w1) (r : CRow w2 base (.slice (some ⟨g, 0, none⟩) n vc) zs) (k : w1.grownBy w2 (some g)) (h1 : w.heap.size + 2 ≤ g) (h2 : hb ≠ g) : RzRel w base g hb vc C R C2 R2 sa sn cp n zs w2 :=
  ⟨r, h.2.1.grown k (fun e => by injection e with e; omega), h.2.2.1.grown k (fun e => by injection e with e; omega), h.2.2.2.1.grown k (fun e => by injection e with e; omega), below_grown h.2.2.2.2 k (by omega) h.2.2.2.2.size⟩
end
set_option maxRecDepth 10000 in
set_option maxHeartbeats 4000000 in
theorem gresize_any (c r c2 r2 : Int) (a : Option Addr) (n cp : Nat) (xs : List Glyph) (w : World) (hl : Cells w a n xs) (hcp : n ≤ cp) (ht : Tabs w) :
    Calls Tryd.prog 39 #[.agg #[.int .i64 c, .int .i64 r, .slice a n cp], .int .i64 c2, .int .i64 r2] w (GG (rzI c r xs c2 r2 c2) (rzI c r xs c2 r2 r2) (resizeP c r xs c2 r2) w) := by
  obtain rfl := hl.1
  have HL := Lib.hid hl
  have HT := Lib.hid ht
  clear hl ht
  obtain ⟨fb, hfb⟩ : ∃ fb, fitsB c2 r2 = fb := ⟨_, rfl⟩
  obtain ⟨mb, hmb⟩ : ∃ mb, gridMay c r xs = mb := ⟨_, rfl⟩
  have HFB := Lib.hid hfb
  have HMB := Lib.hid hmb
  have B0 : Hid (Below w.heap.size w ((w.alloc (.cells #[.int .i64 c, .int .i64 r, .slice a xs.length cp] 49)).alloc (.cells #[.int .i64 0, .int .i64 0, .slice none 0 0] 49))) := ((Below.refl _ _).alloc (Nat.le_refl _) _).alloc (by simp) _
  have G0 : Hid (Own ((w.alloc (.cells #[.int .i64 c, .int .i64 r, .slice a xs.length cp] 49)).alloc (.cells #[.int .i64 0, .int .i64 0, .slice none 0 0] 49)) w.heap.size 49 #[.int .i64 c, .int .i64 r, .slice a xs.length cp]) := (Own.new w 49 _).alloc _
  have A0' : Own ((w.alloc (.cells #[.int .i64 c, .int .i64 r, .slice a xs.length cp] 49)).alloc (.cells #[.int .i64 0, .int .i64 0, .slice none 0 0] 49)) (w.heap.size + 1) 49 #[.int .i64 0, .int .i64 0, .slice none 0 0] := by
    have h := Own.new (w.alloc (.cells #[.int .i64 c, .int .i64 r, .slice a xs.length cp] 49)) 49 #[.int .i64 0, .int .i64 0, .slice none 0 0]
    simpa using h
  have A0 := Lib.hid A0'
  have hz0 : w.heap.size + 2 ≤ ((w.alloc (.cells #[.int .i64 c, .int .i64 r, .slice a xs.length cp] 49)).alloc (.cells #[.int .i64 0, .int .i64 0, .slice none 0 0] 49)).heap.size := by simp
  clear A0'
  go_enter Tryd.func39, Tryd.ntmps39
  go_wp2_with fail
  refine (new_any c2 r2 _).mono ?_
  generalize (w.alloc (.cells #[.int .i64 c, .int .i64 r, .slice a xs.length cp] 49)).alloc (.cells #[.int .i64 0, .int .i64 0, .slice none 0 0] 49) = w0 at B0 G0 A0 hz0 ⊢
  intro e w1 hp
  unfold NewPost at hp
  cases fb with
  | false =>
    rw [if_neg (by rw [hfb]; decide)] at hp
    obtain ⟨rfl, b1⟩ := hp
    have HF : Hid (rzI c r xs c2 r2 c2 = 0 ∧ rzI c r xs c2 r2 r2 = 0 ∧ resizeP c r xs c2 r2 = []) := by unfold rzI resizeP; rw [hfb]; exact ⟨rfl, rfl, rfl⟩
    have B1 : Hid (Below w.heap.size w w1) := B0.out.trans (b1.mono B0.out.size)
    have A1 := Lib.hid (A0.out.below b1 A0.out.lt)
    clear b1 hfb hmb
    go_upto_region 2 with fail
    have B2 : Hid (Below w.heap.size w (w1.alloc (.cells #[.int .i64 0, .int .i64 0, .slice none 0 0] 49))) := B1.out.alloc B1.out.size _
    have A2 := Lib.hid (A1.out.alloc (.cells #[.int .i64 0, .int .i64 0, .slice none 0 0] 49))
    generalize w1.alloc (.cells #[.int .i64 0, .int .i64 0, .slice none 0 0] 49) = w2 at B2 A2 ⊢
    have hA := A2.out
    go_wp2_with (first
      | (refine gvstore_list rfl _ _ rfl (c := 0) (r := 0) (sa := none) (sn := 0) (sc := 0) rfl rfl hA ?_; intro w3 o3 k3; have O3 := Lib.hid o3; have B3 : Hid (Below w.heap.size w w3) := below_grown B2.out k3 (by omega) B2.out.size; clear o3 k3 hA)
      | go_in)
    have g0 := Own.cell O3.out 0
    have g1 := Own.cell O3.out 1
    have g2 := Own.cell O3.out 2
    simp only [List.getElem?_toArray, List.getElem?_cons_zero, List.getElem?_cons_succ] at g0 g1 g2
    (try simp only [Exit.inBlock, Exit.then])
    refine bodyPost_ret (v := .agg #[.int .i64 0, .int .i64 0, .slice none 0 0]) (by simp [results, Tryd.results39, go_sem, g0, g1, g2]) rfl ?_
    obtain ⟨h1, h2, h3⟩ := HF.out
    rw [h1, h2, h3]
    exact ⟨_, rfl, CRow.nil _ _, B3.out⟩
  | true =>
    rw [if_pos hfb] at hp
    obtain ⟨v1, P2, rfl, hP2, r1, b1⟩ := hp
    obtain ⟨a1, a2, a3, a4⟩ := fits_iff.1 hfb
    obtain ⟨C2, rfl⟩ : ∃ C2 : Nat, c2 = C2 := ⟨c2.toNat, by omega⟩
    obtain ⟨R2, rfl⟩ : ∃ R2 : Nat, r2 = R2 := ⟨r2.toNat, by omega⟩
    have hP2' : P2 = C2 * R2 := by have := Int.natCast_mul C2 R2; omega
    have hpos2 : 0 < P2 := by rw [hP2']; exact Nat.mul_pos (by omega) (by omega)
    have hbn2 : P2 ≤ 1920 := by rw [hP2']; exact mul_bound (by omega) (by omega)
    obtain ⟨va, vc, rfl, _⟩ := r1.cells
    have hrl : (List.replicate P2 (blank 0)).length = P2 := List.length_replicate
    rw [hrl] at r1 ⊢
    obtain ⟨g, rfl⟩ := crow_addr r1 hpos2
    have hgb : w0.heap.size ≤ g := (crow_at r1 (k := 0) hpos2).2.1
    have hglt : g < w1.heap.size := (World.ownsRow.lt r1 g rfl).2
    have hvc := crow_cap r1 hpos2
    have R1 := Lib.hid r1
    have HP2 := Lib.hid hP2'
    have B1 : Hid (Below w.heap.size w w1) := B0.out.trans (b1.mono B0.out.size)
    have G1 := Lib.hid (G0.out.below b1 (by omega))
    have A1 := Lib.hid (A0.out.below b1 A0.out.lt)
    clear r1 b1 hrl hP2 hP2'
    go_upto_region 2 with fail
    have X2 : Hid (CRow (w1.alloc (.cells #[.int .i64 C2, .int .i64 R2, .slice (some ⟨g, 0, none⟩) P2 vc] 49)) w0.heap.size (.slice (some ⟨g, 0, none⟩) P2 vc) (List.replicate P2 (blank 0))) := R1.out.alloc _
    have H2 : Hid (Own (w1.alloc (.cells #[.int .i64 C2, .int .i64 R2, .slice (some ⟨g, 0, none⟩) P2 vc] 49)) w1.heap.size 49 #[.int .i64 C2, .int .i64 R2, .slice (some ⟨g, 0, none⟩) P2 vc]) := Own.new w1 49 _
    have B2 : Hid (Below w.heap.size w (w1.alloc (.cells #[.int .i64 C2, .int .i64 R2, .slice (some ⟨g, 0, none⟩) P2 vc] 49))) := B1.out.alloc B1.out.size _
    have G2 := Lib.hid (G1.out.alloc (.cells #[.int .i64 C2, .int .i64 R2, .slice (some ⟨g, 0, none⟩) P2 vc] 49))
    have A2 := Lib.hid (A1.out.alloc (.cells #[.int .i64 C2, .int .i64 R2, .slice (some ⟨g, 0, none⟩) P2 vc] 49))
    generalize w1.alloc (.cells #[.int .i64 C2, .int .i64 R2, .slice (some ⟨g, 0, none⟩) P2 vc] 49) = w2 at X2 H2 B2 G2 A2 ⊢
    have hhb : w1.heap.size ≠ g := by omega
    generalize w1.heap.size = hb at H2 hhb hglt ⊢
    clear R1 B1 G1 A1
    have g0 := Own.cell G2.out 0
    have g1 := Own.cell G2.out 1
    have g2 := Own.cell G2.out 2
    simp only [List.getElem?_toArray, List.getElem?_cons_zero, List.getElem?_cons_succ] at g0 g1 g2
    go_wp2_with fail
    refine (RVal.as (gmay_any c r a xs.length cp xs w2 (HL.out.below B2.out) hcp (HT.out.below B2.out)) (congrArg Value.bool HMB.out)).mono ?_
    rintro e w3 ⟨rfl, b3⟩
    have X3 := Lib.hid (X2.out.below b3)
    have H3 := Lib.hid (H2.out.below b3 H2.out.lt)
    have B3 : Hid (Below w.heap.size w w3) := B2.out.trans (b3.mono B2.out.size)
    have G3 := Lib.hid (G2.out.below b3 G2.out.lt)
    have A3 := Lib.hid (A2.out.below b3 A2.out.lt)
    clear b3 X2 H2 B2 G2 A2 g0 g1 g2
    cases mb with
    | false =>
      have HF : Hid (rzI c r xs C2 R2 C2 = 0 ∧ rzI c r xs C2 R2 R2 = 0 ∧ resizeP c r xs C2 R2 = []) := by unfold rzI resizeP; rw [hmb, Bool.and_false]; exact ⟨rfl, rfl, rfl⟩
      clear hfb hmb
      have hA := A3.out
      go_wp2_with (first
        | (refine gvstore_list rfl _ _ rfl (c := 0) (r := 0) (sa := none) (sn := 0) (sc := 0) rfl rfl hA ?_; intro w4 o4 k4; have O4 := Lib.hid o4; have B4 : Hid (Below w.heap.size w w4) := below_grown B3.out k4 (by omega) B3.out.size; clear o4 k4 hA)
        | go_in)
      have g0 := Own.cell O4.out 0
      have g1 := Own.cell O4.out 1
      have g2 := Own.cell O4.out 2
      simp only [List.getElem?_toArray, List.getElem?_cons_zero, List.getElem?_cons_succ] at g0 g1 g2
      (try simp only [Exit.inBlock, Exit.then])
      refine bodyPost_ret (v := .agg #[.int .i64 0, .int .i64 0, .slice none 0 0]) (by simp [results, Tryd.results39, go_sem, g0, g1, g2]) rfl ?_
      obtain ⟨h1, h2, h3⟩ := HF.out
      rw [h1, h2, h3]
      exact ⟨_, rfl, CRow.nil _ _, B4.out⟩
    | true =>
      obtain ⟨C, R, rfl, rfl, hgo⟩ := gmay_iff.1 hmb
      obtain ⟨o1, o2, o3, o4, o5, _⟩ := hgo
      have hok : (fitsB C2 R2 && gridMay C R xs) = true := by rw [hfb, hmb]; rfl
      have HOI : Hid (rzI C R xs C2 R2 C2 = C2 ∧ rzI C R xs C2 R2 R2 = R2) := by unfold rzI; rw [hok]; exact ⟨rfl, rfl⟩
      have hF0 : resizeP C R xs C2 R2 = rzF C C2 R2 xs (min R R2) := by
        unfold resizeP
        rw [hok, if_pos rfl]
        simp only [Int.toNat_natCast]
      have HF := Lib.hid hF0
      clear hF0
      have hpos : 0 < C * R := Nat.mul_pos (by omega) (by omega)
      have HO5 := Lib.hid o5
      obtain ⟨ga, goff, rfl, hga, _⟩ := HL.out.2.2 (by omega)
      have hbnd := mul_bound o2 o4
      rw [← o5] at hbnd
      obtain ⟨K, hK⟩ : ∃ K, min C C2 = K := ⟨_, rfl⟩
      obtain ⟨J, hJ⟩ : ∃ J, K = J + 1 := ⟨K - 1, by omega⟩
      obtain ⟨N, hN⟩ : ∃ N, min R R2 = N := ⟨_, rfl⟩
      have HK := Lib.hid hK
      have HJ := Lib.hid hJ
      have HN := Lib.hid hN
      have hKC : K ≤ C := by omega
      have hKC2 : K ≤ C2 := by omega
      have hK1 : 1 ≤ K := by omega
      have hNR : N ≤ R := by omega
      have hNR2 : N ≤ R2 := by omega
      have hkj : (K : Int) - 1 = (J : Int) := by omega
      have hC28 : C2 ≤ 80 := by omega
      have hC21 : 1 ≤ C2 := by omega
      have hR224 : R2 ≤ 24 := by omega
      obtain ⟨S, hS⟩ : ∃ S, S = rzF C C2 R2 xs := ⟨_, rfl⟩
      have HS := Lib.hid hS
      have HSN : Hid (∀ k, S (k + 1) = fixAt (partP (S k) (k * C2) (rowOf C k xs) K) (k * C2 + K - 1)) := fun k => by rw [hS, ← hK]; rfl
      have HSL : Hid (∀ k, k ≤ N → (S k).length = P2) := fun k hk => by rw [hS, HP2.out]; exact rzF_len o5 k (by omega) (by omega)
      have HL0 : Hid (RzRel w w0.heap.size g hb vc C R C2 R2 (some ⟨ga, goff, none⟩) xs.length cp P2 (S 0) w3) := ⟨by rw [hS, rzF, ← HP2.out]; exact X3.out, H3.out, G3.out, A3.out, B3.out⟩
      clear hS hN hJ hK hok hfb hmb o5 X3 H3 B3 G3 A3
      have g0 := Own.cell HL0.out.2.2.1 0
      have g1 := Own.cell HL0.out.2.2.1 1
      have g2 := Own.cell HL0.out.2.2.1 2
      simp only [List.getElem?_toArray, List.getElem?_cons_zero, List.getElem?_cons_succ] at g0 g1 g2
      go_upto_region 4 with fail
      go_cut [29, 30] (fun v u wc => v = .int .i64 N ∧ u = .int .i64 0 ∧ w3 = wc)
      case first =>
        have hN := HN.out
        go_wp2_with fail
        all_goals (go_meet; exact ⟨congrArg (Value.int .i64) (by omega), rfl, rfl⟩)
      case rest =>
        obtain ⟨rfl, rfl, rfl⟩ := hcut
        clear g0 g1 g2
        go_wp2_with fail
        go_loopw [30] (fun v wr => ∃ q : Nat, q ≤ N ∧ v = .int .i64 q ∧ Hid (RzRel w w0.heap.size g hb vc C R C2 R2 (some ⟨ga, goff, none⟩) xs.length cp P2 (S q) wr)) (fun v _ => N - (intOf v).toNat)
        case atStart => exact ⟨0, by omega, rfl, HL0⟩
        case round =>
          obtain ⟨q, hq1, rfl, HR⟩ := hrel
          clear HL0
          by_cases hq : q < N
          · have hdq : decide (q < N) = true := decide_eq_true hq
            have HQ : Hid (q < N) := hq
            have hqR : q < R := by omega
            have hqR2 : q < R2 := by omega
            have hmr := mul_row (c := C2) hqR2
            have hmf := mul_row (c := C) hqR
            obtain ⟨Z, hZ⟩ : ∃ Z, q * C2 = Z := ⟨_, rfl⟩
            have HZ := Lib.hid hZ
            have HGC := Lib.hid (fun wz => grow_any C2 q R2 g 0 P2 vc R2 wz hC21 hC28 hqR2 hR224 HP2.out hvc)
            have HGD := Lib.hid (fun wz => grow_any C q R ga goff xs.length cp R wz o1 o2 hqR o4 HO5.out hcp)
            rw [hZ] at hmr HGC
            have hZn : Z + C2 ≤ P2 := by rw [HP2.out]; exact hmr
            have HMF : Hid (q * C + C ≤ xs.length) := by rw [HO5.out]; exact hmf
            have HRL : Hid ((rowOf C q xs).length = C) := row_len HO5.out hqR
            have hsl := HSL.out q (by omega)
            have HSLQ := Lib.hid hsl
            clear hZ hmr hmf hsl
            have g0 := Own.cell HR.out.2.1 0
            have g1 := Own.cell HR.out.2.1 1
            have g2 := Own.cell HR.out.2.1 2
            simp only [List.getElem?_toArray, List.getElem?_cons_zero, List.getElem?_cons_succ] at g0 g1 g2
            go_wp2_with fail
            refine (HGC.out _).mono ?_
            rintro e w4 ⟨rfl, b4⟩
            have S4 : Hid (RzRel w w0.heap.size g hb vc C R C2 R2 (some ⟨ga, goff, none⟩) xs.length cp P2 (S q) w4) := HR.out.below b4
            clear b4 g0 g1 g2 HR
            rw [Nat.zero_add]
            have g0 := Own.cell S4.out.2.2.1 0
            have g1 := Own.cell S4.out.2.2.1 1
            have g2 := Own.cell S4.out.2.2.1 2
            simp only [List.getElem?_toArray, List.getElem?_cons_zero, List.getElem?_cons_succ] at g0 g1 g2
            go_wp2_with fail
            refine (HGD.out _).mono ?_
            rintro e w5 ⟨rfl, b5⟩
            have S5 : Hid (RzRel w w0.heap.size g hb vc C R C2 R2 (some ⟨ga, goff, none⟩) xs.length cp P2 (S q) w5) := S4.out.below b5
            have HP5 : Hid (Cells w5 (some ⟨ga, goff + q * C * 6, none⟩) C (rowOf C q xs)) := cells_part (HL.out.below S5.out.2.2.2.2) (s := q * C) (m := C) HMF.out
            clear b5 g0 g1 g2 S4
            obtain ⟨Y, hY⟩ : ∃ Y, partP (S q) Z (rowOf C q xs) K = Y := ⟨_, rfl⟩
            have HY := Lib.hid hY
            have HYL : Hid (Y.length = P2) := by rw [← hY, part_len (by rw [HSLQ.out]; omega) (by rw [HRL.out]; omega)]; exact HSLQ.out
            have HNX : Hid (S (q + 1) = fixAt Y (Z + J)) := by
              rw [HSN.out, HZ.out, hY, HJ.out]
              rfl
            have hZJ : Z + J < P2 := by have := HJ.out; omega
            have hJ0 : (0 : Int) ≤ (J : Int) := by omega
            have hJ1 : (J : Int) < (C2 : Int) := by have := HJ.out; omega
            clear hY
            go_upto_region 9 with (first
              | (refine gpart_list rfl _ _ rfl Z K rfl rfl S5.out.1 HP5.out (by show K = min C C2; exact HK.out.symm) (by omega) (fun _ => rfl) ?_; intro w6 r6 k6; have S6 : Hid (RzRel w w0.heap.size g hb vc C R C2 R2 (some ⟨ga, goff, none⟩) xs.length cp P2 Y w6) := S5.out.put (by rw [← HY.out]; exact r6) k6 (by omega) hhb; clear r6 k6)
              | go_in)
            (try simp only [Act.put])
            obtain ⟨z, hz⟩ : ∃ z, at_ Y (Z + J) = z := ⟨_, rfl⟩
            have HZZ := Lib.hid hz
            have hga2 := (crow_at S6.out.1 hZJ).1
            rw [show Y.getD (Z + J) g0 = z from hz, Nat.add_mul] at hga2
            obtain ⟨e0, e1, e2, e3, e4, e5⟩ := hga2
            clear hz S5 HP5
            cases hw1 : (z.w == 1) with
            | false =>
              have HFX : Hid (S (q + 1) = Y) := by rw [HNX.out]; unfold fixAt; rw [HZZ.out, if_neg (beq_eq_false_iff_ne.1 hw1)]; rfl
              go_wp2_with fail
              go_roundw
              case rel => exact ⟨q + 1, HQ.out, by go_num, by rw [HFX.out]; exact S6⟩
              case measure => have := HQ.out; simp [intOf]; omega
            | true =>
              have HFX : Hid (S (q + 1) = Y.set (Z + J) (blank z.b)) := by rw [HNX.out]; unfold fixAt; rw [HZZ.out, if_pos (eq_of_beq hw1)]; rfl
              go_wp2_with fail
              refine (blank_any z.f z.b z.a z.l _).mono ?_
              rintro e w7 ⟨rfl, b7⟩
              have S7 : Hid (RzRel w w0.heap.size g hb vc C R C2 R2 (some ⟨ga, goff, none⟩) xs.length cp P2 Y w7) := S6.out.below b7
              clear b7 S6 e0 e1 e2 e3 e4 e5
              go_wp2_with (first
                | (refine gstore_list rfl _ _ rfl (d := blank z.b) (k := Z + J) (by show Value.pointer (some ⟨g, Z * 6 + J * 6, none⟩) = _; rw [← Nat.add_mul]) rfl S7.out.1 hZJ ?_; intro w8 r8 k8; have S8 : Hid (RzRel w w0.heap.size g hb vc C R C2 R2 (some ⟨ga, goff, none⟩) xs.length cp P2 (S (q + 1)) w8) := S7.out.put (by rw [HFX.out]; exact r8) k8 (by omega) hhb; clear r8 k8)
                | go_in)
              go_roundw
              case rel => exact ⟨q + 1, HQ.out, by go_num, S8⟩
              case measure => have := HQ.out; simp [intOf]; omega
          · obtain rfl : q = N := by omega
            have hdq : decide (q < q) = false := decide_eq_false hq
            have R4 := Lib.hid HR.out.1
            have A4 := Lib.hid HR.out.2.2.2.1
            have B4 := Lib.hid HR.out.2.2.2.2
            have hA := A4.out
            have g0 := Own.cell HR.out.2.1 0
            have g1 := Own.cell HR.out.2.1 1
            have g2 := Own.cell HR.out.2.1 2
            simp only [List.getElem?_toArray, List.getElem?_cons_zero, List.getElem?_cons_succ] at g0 g1 g2
            clear hq
            go_wp2_with (first
              | (refine gvstore_list rfl _ _ rfl (c := C2) (r := R2) (sa := some ⟨g, 0, none⟩) (sn := P2) (sc := vc) rfl rfl hA ?_; intro w9 o9 k9; have O9 := Lib.hid o9; have B9 : Hid (Below w.heap.size w w9) := below_grown B4.out k9 (by omega) B4.out.size; have R9 := Lib.hid (crow_other R4.out k9 (by omega)); clear o9 k9 hA)
              | go_in)
            clear g0 g1 g2
            have g0 := Own.cell O9.out 0
            have g1 := Own.cell O9.out 1
            have g2 := Own.cell O9.out 2
            simp only [List.getElem?_toArray, List.getElem?_cons_zero, List.getElem?_cons_succ] at g0 g1 g2
            (try simp only [Exit.inBlock, Exit.then])
            refine bodyPost_ret (v := .agg #[.int .i64 C2, .int .i64 R2, .slice (some ⟨g, 0, none⟩) P2 vc]) (by simp [results, Tryd.results39, go_sem, g0, g1, g2]) rfl ?_
            rw [HOI.out.1, HOI.out.2, HF.out, HN.out, ← HS.out]
            exact ⟨_, rfl, R9.out.up B0.out.size, B9.out⟩
end Go.Proofs.YtlhcehealjdbdaaDoor
/- A row of blanks, as the document lays it. -/
namespace Go.Proofs.YtlhcehealjdbdaaDoor
open Go.RowKit
set_option linter.unusedSimpArgs false
set_option linter.unusedVariables false
attribute [local go_sem] alloc_drewN setCell_drewN


theorem fillP_rep2 {n : Nat} {d : Glyph} : fillP (List.replicate n g0) 0 d n = List.replicate n d := by
  refine gext (by rw [fillP_len, List.length_replicate, List.length_replicate]) fun j hj => ?_
  rw [fillP_len, List.length_replicate] at hj
  show at_ (fillP (List.replicate n g0) 0 d n) j = at_ (List.replicate n d) j
  rw [fill_at (by simp), if_pos (by omega)]
  unfold at_
  rw [List.getD_eq_getElem?_getD, List.getElem?_replicate, if_pos hj]
  rfl
def BRel (w : World) (g : Nat) (f b d l : Int) (n q : Nat) (wr : World) : Prop := CRow wr (w.heap.size + 1) (.slice (some ⟨g, 0, none⟩) n n) (fillP (List.replicate n g0) 0 (blank b) q) ∧ Own wr w.heap.size 26 #[.int .u32 f, .int .u32 b, .int .u8 d, .int .u16 l] ∧ Below w.heap.size w wr
set_option maxRecDepth 10000 in
set_option maxHeartbeats 2000000 in
theorem blanks_any (n : Nat) (hn : n ≤ 80) (f b d l : Int) (w : World) : Calls Tryd.prog 36 #[.int .i64 n, .agg #[.int .u32 f, .int .u32 b, .int .u8 d, .int .u16 l]] w (GPost (List.replicate n (blank b)) w) := by
  have B0 : Hid (Below w.heap.size w (w.alloc (.cells #[.int .u32 f, .int .u32 b, .int .u8 d, .int .u16 l] 26))) := (Below.refl _ _).alloc (Nat.le_refl _) _
  have P0 : Hid (Own (w.alloc (.cells #[.int .u32 f, .int .u32 b, .int .u8 d, .int .u16 l] 26)) w.heap.size 26 #[.int .u32 f, .int .u32 b, .int .u8 d, .int .u16 l]) := Own.new w 26 _
  have hz0 : (w.alloc (.cells #[.int .u32 f, .int .u32 b, .int .u8 d, .int .u16 l] 26)).heap.size = w.heap.size + 1 := by simp
  go_enter Tryd.func36, Tryd.ntmps36
  go_upto_region 1 with fail
  generalize w.alloc (.cells #[.int .u32 f, .int .u32 b, .int .u8 d, .int .u16 l] 26) = w0 at B0 P0 hz0 ⊢
  go_wp2_with (first
    | (at_make; refine wpList_make_full _ rfl _ _ 29 rfl w0.heap.size 28 _ _ 6 Tryd.underlying29 ginfoE gzeroE (by kernel_rfl) .i64 .i64 _ _ n rfl rfl rfl rfl (by rw [gbytes]; omega) (by unfold maxLen; omega) (Nat.le_refl _) ?_; intro w1 o1 g1; have R1 := Lib.hid (gmake_row o1); have D1 := gbelow_none g1; have B1 : Hid (Below w.heap.size w w1) := B0.out.trans (D1.mono B0.out.size); have P1 := Lib.hid (P0.out.below D1 (by omega)); clear o1 g1 D1)
    | go_in)
  have HL0 : Hid (BRel w (w.heap.size + 1) f b d l n 0 w1) := ⟨by have h := R1.out; rw [hz0] at h; exact h, P1.out, B1.out⟩
  clear R1 P1 B1 B0 P0 hz0
  go_loopw [11] (fun v wr => ∃ q : Nat, q ≤ n ∧ v = .int .i64 q ∧ Hid (BRel w (w.heap.size + 1) f b d l n q wr)) (fun v _ => n - (intOf v).toNat)
  case atStart => exact ⟨0, by omega, rfl, HL0⟩
  case round =>
    obtain ⟨q, hq1, rfl, HR⟩ := hrel
    clear HL0
    by_cases hqn : q < n
    · have hi0 : (0 : Int) ≤ (q : Int) := by omega
      have hi1 : (q : Int) < (n : Int) := by omega
      have e0 := Own.cell HR.out.2.1 0
      have e1 := Own.cell HR.out.2.1 1
      have e2 := Own.cell HR.out.2.1 2
      have e3 := Own.cell HR.out.2.1 3
      simp only [List.getElem?_toArray, List.getElem?_cons_zero, List.getElem?_cons_succ] at e0 e1 e2 e3
      go_wp2_with fail
      refine (ref_blank_any f b d l _).mono ?_
      rintro e wx ⟨rfl, bx⟩
      have HX : Hid (BRel w (w.heap.size + 1) f b d l n q wx) := ⟨HR.out.1.below bx, HR.out.2.1.below bx HR.out.2.1.lt, HR.out.2.2.trans (bx.mono HR.out.2.2.size)⟩
      clear bx HR e0 e1 e2 e3
      go_wp2_with (first
        | (refine gstore_list rfl _ _ rfl (d := blank b) rfl rfl HX.out.1 hqn ?_; intro wy r5 g5; have HY : Hid (BRel w (w.heap.size + 1) f b d l n (q + 1) wy) := ⟨by rw [fillP, Nat.zero_add]; exact r5, HX.out.2.1.grown g5 (by intro e; injection e with e; omega), below_grown HX.out.2.2 g5 (by omega) HX.out.2.2.size⟩; clear r5 g5)
        | go_in)
      go_roundw
      case rel => exact ⟨q + 1, by omega, by go_num, HY⟩
      case measure => simp [intOf]; omega
    · obtain rfl : q = n := by omega
      clear hqn
      go_wp2_with fail
      go_ret
      exact ⟨_, rfl, by rw [← fillP_rep2]; exact HR.out.1.up (by omega), HR.out.2.2⟩
end Go.Proofs.YtlhcehealjdbdaaDoor
/- A new grid, as the document says. -/
namespace Go.Proofs.YtlhcehealjdbdaaDoor
open Go.RowKit
set_option linter.unusedSimpArgs false
set_option linter.unusedVariables false
attribute [local go_sem] alloc_drewN setCell_drewN


def NwRel (w : World) (C q : Nat) (vo : Value) (wr : World) : Prop := RowsAt wr w.heap.size vo (List.replicate q (List.replicate C (blank 0))) ∧ Own wr w.heap.size 49 #[.int .i64 0, .int .i64 0, .slice none 0 0] ∧ Below w.heap.size w wr
theorem nw_ne {w : World} {b g : Nat} {v : Value} {L : List (List Glyph)} {cs : Array Value} (h : RowsAt w b v L) (ho : Own w g 49 cs) : some g ≠ v.ownBlock := by
  obtain ⟨vs, _, k2, _⟩ := h
  intro e
  exact (apart_own k2 ho (by decide)).elim (fun h => by rw [h] at e; cases e) (fun h => h e.symm)
theorem rep_snoc {q : Nat} {l : List Glyph} : List.replicate q l ++ [l] = List.replicate (q + 1) l := (List.replicate_succ' ..).symm
theorem rep_flat {C R : Nat} {x : Glyph} : (List.replicate R (List.replicate C x)).flatten = List.replicate (C * R) x := by
  induction R with
  | zero => simp
  | succ n ih => rw [List.replicate_succ, List.flatten_cons, ih, List.replicate_append_replicate, Nat.mul_succ, Nat.add_comm]
theorem rep_get {C R i : Nat} {x : Glyph} (h : i < R) : (List.replicate R (List.replicate C x)).getD i [] = List.replicate C x := by
  rw [List.getD_eq_getElem?_getD, List.getElem?_replicate, if_pos h]
  rfl
set_option maxRecDepth 10000 in
set_option maxHeartbeats 2000000 in
theorem ref_new_any (c r : Int) (w : World) : Calls Tryd.prog 32 #[.int .i64 c, .int .i64 r] w (NewPost c r w) := by
  obtain ⟨fb, hfb⟩ : ∃ fb, fitsB c r = fb := ⟨_, rfl⟩
  have HFB := Lib.hid hfb
  have B0 : Hid (Below w.heap.size w (w.alloc (.cells #[.int .i64 0, .int .i64 0, .slice none 0 0] 49))) := (Below.refl _ _).alloc (Nat.le_refl _) _
  have O0 : Hid (Own (w.alloc (.cells #[.int .i64 0, .int .i64 0, .slice none 0 0] 49)) w.heap.size 49 #[.int .i64 0, .int .i64 0, .slice none 0 0]) := Own.new w 49 _
  have hz0 : (w.alloc (.cells #[.int .i64 0, .int .i64 0, .slice none 0 0] 49)).heap.size = w.heap.size + 1 := by simp
  go_enter Tryd.func32, Tryd.ntmps32
  go_upto_region 1 with fail
  generalize w.alloc (.cells #[.int .i64 0, .int .i64 0, .slice none 0 0] 49) = w0 at B0 O0 hz0 ⊢
  go_cut [21] (fun v wc => v = .bool (!fb) ∧ w0 = wc)
  case first =>
    unfold fitsB at hfb
    cases t1 : decide (c < 1) with
    | true =>
      have e : fb = false := by rw [← hfb, decide_eq_false (p := 1 ≤ c) (by have := of_decide_eq_true t1; omega)]; rfl
      have HE := Lib.hid e
      clear hfb e
      go_wp2_with fail
      go_meet
      exact ⟨by rw [HE.out]; rfl, rfl⟩
    | false =>
    cases t2 : decide (80 < c) with
    | true =>
      have e : fb = false := by rw [← hfb, decide_eq_false (p := c ≤ 80) (by have := of_decide_eq_true t2; omega), Bool.and_false]; rfl
      have HE := Lib.hid e
      clear hfb e
      go_wp2_with fail
      go_meet
      exact ⟨by rw [HE.out]; rfl, rfl⟩
    | false =>
    cases t3 : decide (r < 1) with
    | true =>
      have e : fb = false := by rw [← hfb, decide_eq_false (p := 1 ≤ r) (by have := of_decide_eq_true t3; omega), Bool.and_false]; rfl
      have HE := Lib.hid e
      clear hfb e
      go_wp2_with fail
      go_meet
      exact ⟨by rw [HE.out]; rfl, rfl⟩
    | false =>
    cases t4 : decide (24 < r) with
    | true =>
      have e : fb = false := by rw [← hfb, decide_eq_false (p := r ≤ 24) (by have := of_decide_eq_true t4; omega), Bool.and_false]
      have HE := Lib.hid e
      clear hfb e
      go_wp2_with fail
      go_meet
      exact ⟨by rw [HE.out]; rfl, rfl⟩
    | false =>
      have e : fb = true := by
        rw [← hfb, decide_eq_true (p := 1 ≤ c) (by have := of_decide_eq_false t1; omega), decide_eq_true (p := c ≤ 80) (by have := of_decide_eq_false t2; omega), decide_eq_true (p := 1 ≤ r) (by have := of_decide_eq_false t3; omega), decide_eq_true (p := r ≤ 24) (by have := of_decide_eq_false t4; omega)]
        rfl
      have HE := Lib.hid e
      clear hfb e
      go_wp2_with fail
      go_meet
      exact ⟨by rw [HE.out]; rfl, rfl⟩
  case rest =>
    obtain ⟨rfl, rfl⟩ := hcut
    cases fb with
    | false =>
      clear hfb
      have hown := O0.out
      go_wp2_with (first
        | (refine gvstore_list rfl _ _ rfl (c := 0) (r := 0) (sa := none) (sn := 0) (sc := 0) rfl rfl hown ?_; intro w1 o1 g1; have B1 : Hid (Below w.heap.size w w1) := below_grown B0.out g1 (Nat.le_refl _) B0.out.size; have O1 := Lib.hid o1; clear o1 g1 hown)
        | go_in)
      have g0 := Own.cell O1.out 0
      have g1 := Own.cell O1.out 1
      have g2 := Own.cell O1.out 2
      simp only [List.getElem?_toArray, List.getElem?_cons_zero, List.getElem?_cons_succ] at g0 g1 g2
      (try simp only [Exit.inBlock, Exit.then])
      refine bodyPost_ret (v := .tuple #[.agg #[.int .i64 0, .int .i64 0, .slice none 0 0], .int .i64 1]) (by simp [results, Tryd.results32, go_sem, g0, g1, g2]) rfl ?_
      unfold NewPost
      rw [if_neg (by rw [HFB.out]; decide)]
      exact ⟨rfl, B1.out⟩
    | true =>
      simp only [Bool.not_true]
      obtain ⟨a1, a2, a3, a4⟩ := fits_iff.1 hfb
      clear hfb
      obtain ⟨C, rfl⟩ : ∃ C : Nat, c = C := ⟨c.toNat, by omega⟩
      obtain ⟨R, rfl⟩ : ∃ R : Nat, r = R := ⟨r.toNat, by omega⟩
      have hC8 : C ≤ 80 := by omega
      have hR24 : R ≤ 24 := by omega
      go_upto_region 4 with fail
      have HL0 : Hid (NwRel w C 0 (.slice (some ⟨w0.heap.size, 0, none⟩) 0 0) (w0.alloc (.cells #[] 29))) := by
        obtain ⟨vs, k1, k2, k3⟩ := RowsAt.nil w0
        refine ⟨⟨vs, k1, ?_, k3⟩, O0.out.alloc _, B0.out.alloc B0.out.size _⟩
        refine ⟨k2.1, ?_⟩
        rcases k2.2 with hn | ⟨g', cap, cur, h1, h2, h3⟩
        · exact .inl hn
        · exact .inr ⟨g', cap, cur, h1, by omega, h3⟩
      generalize w0.alloc (.cells #[] 29) = w1 at HL0 ⊢
      rw [hz0] at HL0
      clear O0 B0 hz0
      go_wp2_with fail
      go_loopw [6, 7] (fun vo v wr => ∃ q : Nat, q ≤ R ∧ v = .int .i64 q ∧ Hid (NwRel w C q vo wr)) (fun _ v _ => R - (intOf v).toNat)
      case atStart => exact ⟨0, by omega, rfl, HL0⟩
      case round =>
        obtain ⟨q, hq1, rfl, HR⟩ := hrel
        clear HL0
        by_cases hq : q < R
        · have hdq : decide (q < R) = true := decide_eq_true hq
          obtain ⟨oa, oc, hvo⟩ := rows_form HR.out.1
          rw [List.length_replicate] at hvo
          subst hvo
          go_wp2_with fail
          refine (blanks_any C hC8 0 0 0 0 _).mono ?_
          rintro e w3 ⟨v3, rfl, r3, b3⟩
          obtain ⟨ra, rc, rfl, _⟩ := r3.cells
          have hlen : (List.replicate C (blank 0)).length = C := List.length_replicate
          rw [hlen] at r3 ⊢
          clear hlen
          have HX : Hid (NwRel w C q (.slice oa q oc) w3) := ⟨HR.out.1.below b3, HR.out.2.1.below b3 HR.out.2.1.lt, HR.out.2.2.trans (b3.mono HR.out.2.2.size)⟩
          have HRW : Hid (CRow w3 0 (.slice ra C rc) (List.replicate C (blank 0))) := r3.up (Nat.zero_le _)
          have hnew := Own.new w3 29 #[.slice ra C rc]
          clear r3 b3 HR
          go_wp2_with (first
            | (at_builtin; refine rapp rfl _ _ rfl rfl (HX.out.1.below ((Below.refl _ _).alloc (Nat.le_refl _) _)) rfl (Own.cell hnew 0) (HRW.out.alloc _) (by rw [List.length_replicate]; omega) (by have := HX.out.2.2.size; simp; omega) ?_; intro v5 w5 r5 k5 b5; have HY : Hid (NwRel w C (q + 1) v5 w5) := ⟨by rw [← rep_snoc]; exact r5, (HX.out.2.1.alloc _).grown k5 (nw_ne HX.out.1 HX.out.2.1), (HX.out.2.2.alloc HX.out.2.2.size _).trans b5⟩; clear r5 k5 b5)
            | go_in)
          go_roundw
          case rel => exact ⟨q + 1, by omega, by go_num, HY⟩
          case measure => simp [intOf]; omega
        · obtain rfl : q = R := by omega
          have hdq : decide (q < q) = false := decide_eq_false hq
          obtain ⟨oa, oc, hvo⟩ := rows_form HR.out.1
          rw [List.length_replicate] at hvo
          subst hvo
          obtain ⟨gl, rfl, _, _, _, _⟩ := rows_addr HR.out.1 (by omega)
          have HOF := Lib.hid (of_any C q gl oc w.heap.size (List.replicate q (List.replicate C (blank 0))) wr HR.out.1 (by omega) hR24 (by omega) hC8 (fun i hi => by rw [rep_get hi, List.length_replicate]))
          rw [rep_flat] at HOF
          have O4 := Lib.hid HR.out.2.1
          have B4 := Lib.hid HR.out.2.2
          clear HR hq
          go_wp2_with fail
          refine HOF.out.mono ?_
          clear HOF
          rintro e w5 ⟨v5, rfl, r5, b5⟩
          obtain ⟨va, vc, rfl, _⟩ := r5.cells
          have O5 := Lib.hid (O4.out.below b5 O4.out.lt)
          have B5 : Hid (Below w.heap.size w w5) := B4.out.trans (b5.mono B4.out.size)
          have R5 := Lib.hid (r5.up B4.out.size)
          clear r5 b5
          have hown := O5.out
          generalize (List.replicate (C * q) (blank 0)).length = vn at R5 ⊢
          go_wp2_with (first
            | (refine gvstore_list rfl _ _ rfl (c := C) (r := q) (sa := va) (sn := vn) (sc := vc) rfl rfl hown ?_; intro w6 o6 k6; have O6 := Lib.hid o6; have B6 : Hid (Below w.heap.size w w6) := below_grown B5.out k6 (Nat.le_refl _) B5.out.size; have R6 : Hid (CRow w6 w.heap.size (.slice va vn vc) (List.replicate (C * q) (blank 0))) := World.ownsRow.kept R5.out k6 (apart_own R5.out O5.out (by decide)); clear o6 k6 hown)
            | go_in)
          have g0 := Own.cell O6.out 0
          have g1 := Own.cell O6.out 1
          have g2 := Own.cell O6.out 2
          simp only [List.getElem?_toArray, List.getElem?_cons_zero, List.getElem?_cons_succ] at g0 g1 g2
          (try simp only [Exit.inBlock, Exit.then])
          refine bodyPost_ret (v := .tuple #[.agg #[.int .i64 C, .int .i64 q, .slice va vn vc], .int .i64 0]) (by simp [results, Tryd.results32, go_sem, g0, g1, g2]) rfl ?_
          unfold NewPost
          rw [if_pos HFB.out]
          exact ⟨_, C * q, rfl, (Int.natCast_mul C q).symm, R6.out, B6.out⟩
end Go.Proofs.YtlhcehealjdbdaaDoor
/- The chapter's example of grid. -/
namespace Go.Proofs.YtlhcehealjdbdaaDoor
open Go.RowKit
set_option linter.unusedSimpArgs false
set_option linter.unusedVariables false
attribute [local go_sem] alloc_drewN setCell_drewN


def gA : Glyph := ⟨97, 0, 0, 0, 0, 0⟩
def gB : Glyph := ⟨98, 0, 0, 0, 0, 0⟩
def fx0 : List Glyph := [blank 0, blank 0, blank 0, blank 0, blank 0, blank 0]
def fx1 : List Glyph := [gA, blank 0, blank 0, blank 0, blank 0, blank 0]
def fx2 : List Glyph := [gA, blank 0, blank 0, blank 0, gB, blank 0]
def fx3 : List Glyph := [blank 0, gB, blank 0, blank 0, blank 0, blank 0]
theorem b3_ok : RowOk [blank 0, blank 0, blank 0] := by
  refine ⟨by decide, by decide, fun i hi => ?_⟩
  have hi : i < 3 := hi
  rcases (by omega : i = 0 ∨ i = 1 ∨ i = 2) with rfl | rfl | rfl
  all_goals exact ⟨by decide +kernel, fun k => absurd k (by decide), fun k => absurd k (by decide)⟩
theorem b3_may : (rowMay [blank 0, blank 0, blank 0] && penMay 0 0) = true := Bool.and_eq_true_iff.2 ⟨row_yes b3_ok, pen0⟩
theorem wa : width 97 = 1 := by decide +kernel
theorem wb : width 98 = 1 := by decide +kernel
theorem put_a : putP [blank 0, blank 0, blank 0] 0 97 0 0 0 0 = [gA, blank 0, blank 0] := by
  unfold putP
  rw [if_pos b3_may, wa, if_neg (by decide), if_neg (by decide)]
  decide
theorem put_b : putP [blank 0, blank 0, blank 0] 1 98 0 0 0 0 = [blank 0, gB, blank 0] := by
  unfold putP
  rw [if_pos b3_may, wb, if_neg (by decide), if_neg (by decide)]
  decide
theorem a3_ok : RowOk [gA, blank 0, blank 0] := by rw [← put_a]; exact put_row b3_may
theorem c3_ok : RowOk [blank 0, gB, blank 0] := by rw [← put_b]; exact put_row b3_may
theorem fx_grid (X : List Glyph) (h : X.length = 6) (h0 : RowOk (rowOf 3 0 X)) (h1 : RowOk (rowOf 3 1 X)) : gridMay 3 2 X = true := gmay_iff.2 ⟨3, 2, rfl, rfl, by omega, by omega, by omega, by omega, h, fun y hy => by
  rcases (by omega : y = 0 ∨ y = 1) with rfl | rfl
  · exact h0
  · exact h1⟩
theorem fx0_ok : gridMay 3 2 fx0 = true := fx_grid fx0 rfl b3_ok b3_ok
theorem fx1_ok : gridMay 3 2 fx1 = true := fx_grid fx1 rfl a3_ok b3_ok
theorem fx2_ok : gridMay 3 2 fx2 = true := fx_grid fx2 rfl a3_ok c3_ok
theorem fx_okI {X : List Glyph} {v : Int} (h : gridMay 3 2 X = true) : okI 3 2 X 0 0 v = v := by unfold okI; rw [h, pen0]; rfl
theorem fx_1 : turnP 3 2 fx0 0 0 0 (fun l' => putP l' 0 97 0 0 0 0) = fx1 := by
  unfold turnP
  rw [fx0_ok, pen0, Bool.and_true, if_pos rfl, if_pos (by decide)]
  show setRow fx0 3 0 (putP [blank 0, blank 0, blank 0] 0 97 0 0 0 0) = fx1
  rw [put_a]
  decide
theorem fx_2 : turnP 3 2 fx1 1 0 0 (fun l' => putP l' 1 98 0 0 0 0) = fx2 := by
  unfold turnP
  rw [fx1_ok, pen0, Bool.and_true, if_pos rfl, if_pos (by decide)]
  show setRow fx1 3 1 (putP [blank 0, blank 0, blank 0] 1 98 0 0 0 0) = fx2
  rw [put_b]
  decide
theorem fx_3 : scrollP 3 2 fx2 0 1 1 0 0 = fx3 := by
  unfold scrollP
  rw [fx2_ok, pen0, Bool.and_true, if_pos rfl, if_neg (by decide)]
  decide +kernel
set_option maxRecDepth 10000 in
set_option maxHeartbeats 4000000 in
theorem gfixed_any (w : World) (ht : Tabs w) : Calls Tryd.prog 33 #[] w (RVal (.bool true) w) := by
  have HT := Lib.hid ht
  clear ht
  have B0 : Hid (Below w.heap.size w w) := Below.refl _ _
  have HN := Lib.hid (new_any 3 2 w)
  go_enter Tryd.func33, Tryd.ntmps33
  go_wp2_with fail
  refine HN.out.mono ?_
  clear HN
  intro e w1 hpost
  unfold NewPost at hpost
  rw [if_pos (show fitsB 3 2 = true from by decide)] at hpost
  obtain ⟨v1, n1, rfl, hn1, r1, b1⟩ := hpost
  obtain rfl : n1 = 6 := by omega
  obtain ⟨a1, c1, rfl, l1⟩ := r1.cells
  have HC1 : Hid (Cells w1 a1 6 fx0) := l1
  have K1 : Hid (6 ≤ c1) := crow_cap (n := 6) r1 (by omega)
  have B1 : Hid (Below w.heap.size w w1) := b1
  clear r1 l1 b1 hn1
  have hl6 : (List.replicate 6 (blank 0)).length = 6 := rfl
  rw [hl6]
  go_upto_region 2 with fail
  have G2 : Hid (Own (w1.alloc (.cells #[.int .i64 3, .int .i64 2, .slice a1 6 c1] 49)) w1.heap.size 49 #[.int .i64 3, .int .i64 2, .slice a1 6 c1]) := Own.new w1 49 _
  have B2 : Hid (Below w.heap.size w (w1.alloc (.cells #[.int .i64 3, .int .i64 2, .slice a1 6 c1] 49))) := B1.out.alloc B1.out.size _
  have HC2 := Lib.hid (HC1.out.alloc (.cells #[.int .i64 3, .int .i64 2, .slice a1 6 c1] 49))
  have hgw : w.heap.size ≤ w1.heap.size := B1.out.size
  generalize w1.alloc (.cells #[.int .i64 3, .int .i64 2, .slice a1 6 c1] 49) = w2 at G2 B2 HC2 ⊢
  generalize w1.heap.size = gb at G2 hgw ⊢
  have g0 := Own.cell G2.out 0
  have g1 := Own.cell G2.out 1
  have g2 := Own.cell G2.out 2
  simp only [List.getElem?_toArray, List.getElem?_cons_zero, List.getElem?_cons_succ] at g0 g1 g2
  go_wp2_with fail
  refine (gput_any 3 2 0 0 97 0 0 0 0 a1 6 c1 fx0 _ HC2.out K1.out (HT.out.below B2.out)).mono ?_
  rw [fx_okI fx0_ok, fx_okI fx0_ok, fx_1]
  rintro e w3 ⟨v3, rfl, r3, b3⟩
  obtain ⟨a3, c3, rfl, l3⟩ := r3.cells
  rw [show fx1.length = 6 from rfl]
  have HC3 : Hid (Cells w3 a3 6 fx1) := l3
  have K3 : Hid (6 ≤ c3) := crow_cap (n := 6) r3 (by omega)
  have B3 : Hid (Below w.heap.size w w3) := B2.out.trans (b3.mono B2.out.size)
  have G3 := Lib.hid (G2.out.below b3 G2.out.lt)
  clear r3 b3 l3 g0 g1 g2
  go_wp2_with fail
  refine (gput_any 3 2 1 1 98 0 0 0 0 a3 6 c3 fx1 _ HC3.out K3.out (HT.out.below B3.out)).mono ?_
  rw [fx_okI fx1_ok, fx_okI fx1_ok, fx_2]
  rintro e w4 ⟨v4, rfl, r4, b4⟩
  obtain ⟨a4, c4, rfl, l4⟩ := r4.cells
  rw [show fx2.length = 6 from rfl]
  have HC4 : Hid (Cells w4 a4 6 fx2) := l4
  have K4 : Hid (6 ≤ c4) := crow_cap (n := 6) r4 (by omega)
  have B4 : Hid (Below w.heap.size w w4) := B3.out.trans (b4.mono B3.out.size)
  have G4 := Lib.hid (G3.out.below b4 G3.out.lt)
  have R4 := Lib.hid r4
  clear r4 b4 l4
  have hG := G4.out
  go_upto_region 3 with (first
    | (refine gvstore_list rfl _ _ rfl (c := 3) (r := 2) (sa := a4) (sn := 6) (sc := c4) rfl rfl hG ?_; intro w5 o5 k5; have G5 := Lib.hid o5; have B5 : Hid (Below w.heap.size w w5) := below_grown B4.out k5 hgw B4.out.size; have R5 := Lib.hid (crow_other R4.out k5 (by have := G3.out.lt; exact this)); clear o5 k5 hG)
    | go_in)
  (try simp only [Act.put])
  have HC5 : Hid (Cells w5 a4 6 fx2) := cells_of R5.out
  have g0 := Own.cell G5.out 0
  have g1 := Own.cell G5.out 1
  have g2 := Own.cell G5.out 2
  simp only [List.getElem?_toArray, List.getElem?_cons_zero, List.getElem?_cons_succ] at g0 g1 g2
  go_wp2_with fail
  refine (gscroll_any 3 2 0 1 1 0 0 0 0 a4 6 c4 fx2 _ HC5.out K4.out (HT.out.below B5.out)).mono ?_
  rw [fx_okI fx2_ok, fx_okI fx2_ok, fx_3]
  rintro e w6 ⟨v6, rfl, r6, b6⟩
  obtain ⟨a6, c6, rfl, l6⟩ := r6.cells
  rw [show fx3.length = 6 from rfl]
  have HC6 : Hid (Cells w6 a6 6 fx3) := l6
  have HC6' : Hid (Cells w6 a4 6 fx2) := HC5.out.below b6
  have B6 : Hid (Below w.heap.size w w6) := B5.out.trans (b6.mono B5.out.size)
  have G6 := Lib.hid (G5.out.below b6 G5.out.lt)
  clear r6 l6 b6 g0 g1 g2
  go_upto_region 4 with fail
  have H7 : Hid (Own (w6.alloc (.cells #[.int .i64 3, .int .i64 2, .slice a6 6 c6] 49)) w6.heap.size 49 #[.int .i64 3, .int .i64 2, .slice a6 6 c6]) := Own.new w6 49 _
  have B7 : Hid (Below w.heap.size w (w6.alloc (.cells #[.int .i64 3, .int .i64 2, .slice a6 6 c6] 49))) := B6.out.alloc B6.out.size _
  have HC7 := Lib.hid (HC6.out.alloc (.cells #[.int .i64 3, .int .i64 2, .slice a6 6 c6] 49))
  have HC7' := Lib.hid (HC6'.out.alloc (.cells #[.int .i64 3, .int .i64 2, .slice a6 6 c6] 49))
  have G7 := Lib.hid (G6.out.alloc (.cells #[.int .i64 3, .int .i64 2, .slice a6 6 c6] 49))
  generalize w6.alloc (.cells #[.int .i64 3, .int .i64 2, .slice a6 6 c6] 49) = w7 at H7 B7 HC7 HC7' G7 ⊢
  generalize w6.heap.size = hb at H7 ⊢
  have g0 := Own.cell G7.out 0
  have g1 := Own.cell G7.out 1
  have g2 := Own.cell G7.out 2
  simp only [List.getElem?_toArray, List.getElem?_cons_zero, List.getElem?_cons_succ] at g0 g1 g2
  have h0 := Own.cell H7.out 0
  have h1 := Own.cell H7.out 1
  have h2 := Own.cell H7.out 2
  simp only [List.getElem?_toArray, List.getElem?_cons_zero, List.getElem?_cons_succ] at h0 h1 h2
  obtain ⟨x6, o6, rfl, _, q6⟩ := HC7.out.2.2 (by omega)
  obtain ⟨x4, o4, rfl, _, q4⟩ := HC7'.out.2.2 (by omega)
  have p1 := (q6 1 (by omega)).1
  have p4 := (q6 4 (by omega)).1
  have p0 := (q4 0 (by omega)).1
  have p1 : w7.cell? ⟨x6, o6 + 6, none⟩ = some (.int .i32 98) := p1
  have p4 : w7.cell? ⟨x6, o6 + 24, none⟩ = some (.int .i32 32) := p4
  have p0 : w7.cell? ⟨x4, o4, none⟩ = some (.int .i32 97) := p0
  clear q6 q4
  go_wp2_with fail
  go_ret
  exact ⟨rfl, B7.out⟩
end Go.Proofs.YtlhcehealjdbdaaDoor
/- Grids compared, as the document does. -/
namespace Go.Proofs.YtlhcehealjdbdaaDoor
open Go.RowKit
set_option linter.unusedSimpArgs false
set_option linter.unusedVariables false
attribute [local go_sem] alloc_drewN setCell_drewN


def sameG (c r c' r' : Int) (xs ys : List Glyph) : Bool := decide (c = c') && decide (r = r') && decide (xs = ys)
theorem sameG_self (c r : Int) (xs : List Glyph) : sameG c r c r xs xs = true := by unfold sameG; simp
set_option maxRecDepth 10000 in
theorem sameg_any (c r c' r' : Int) (a a' : Option Addr) (n cp n' cp' : Nat) (xs ys : List Glyph) (w : World) (hl : Cells w a n xs) (hk : Cells w a' n' ys) : Calls Tryd.prog 34 #[.agg #[.int .i64 c, .int .i64 r, .slice a n cp], .agg #[.int .i64 c', .int .i64 r', .slice a' n' cp']] w (RVal (.bool (sameG c r c' r' xs ys)) w) := by
  have HL := Lib.hid hl
  have HK := Lib.hid hk
  clear hl hk
  have B0 : Hid (Below w.heap.size w ((w.alloc (.cells #[.int .i64 c, .int .i64 r, .slice a n cp] 49)).alloc (.cells #[.int .i64 c', .int .i64 r', .slice a' n' cp'] 49))) := ((Below.refl _ _).alloc (Nat.le_refl _) _).alloc (by simp) _
  have G0 : Hid (Own ((w.alloc (.cells #[.int .i64 c, .int .i64 r, .slice a n cp] 49)).alloc (.cells #[.int .i64 c', .int .i64 r', .slice a' n' cp'] 49)) w.heap.size 49 #[.int .i64 c, .int .i64 r, .slice a n cp]) := (Own.new w 49 _).alloc _
  have H0' : Own ((w.alloc (.cells #[.int .i64 c, .int .i64 r, .slice a n cp] 49)).alloc (.cells #[.int .i64 c', .int .i64 r', .slice a' n' cp'] 49)) (w.heap.size + 1) 49 #[.int .i64 c', .int .i64 r', .slice a' n' cp'] := by
    have h := Own.new (w.alloc (.cells #[.int .i64 c, .int .i64 r, .slice a n cp] 49)) 49 #[.int .i64 c', .int .i64 r', .slice a' n' cp']
    simpa using h
  have H0 := Lib.hid H0'
  clear H0'
  have g0 := Own.cell G0.out 0
  have g1 := Own.cell G0.out 1
  have g2 := Own.cell G0.out 2
  simp only [List.getElem?_toArray, List.getElem?_cons_zero, List.getElem?_cons_succ] at g0 g1 g2
  have h0 := Own.cell H0.out 0
  have h1 := Own.cell H0.out 1
  have h2 := Own.cell H0.out 2
  simp only [List.getElem?_toArray, List.getElem?_cons_zero, List.getElem?_cons_succ] at h0 h1 h2
  cases h1' : (c == c') with
  | false =>
    have HZ : Hid (sameG c r c' r' xs ys = false) := by unfold sameG; rw [decide_eq_false (beq_eq_false_iff_ne.1 h1')]; rfl
    go_enter Tryd.func34, Tryd.ntmps34
    go_wp2_with fail
    go_ret
    exact ⟨by rw [HZ.out]; rfl, B0.out⟩
  | true =>
    cases h2' : (r == r') with
    | false =>
      have HZ : Hid (sameG c r c' r' xs ys = false) := by unfold sameG; rw [decide_eq_false (p := r = r') (beq_eq_false_iff_ne.1 h2'), Bool.and_false]; rfl
      go_enter Tryd.func34, Tryd.ntmps34
      go_wp2_with fail
      go_ret
      exact ⟨by rw [HZ.out]; rfl, B0.out⟩
    | true =>
      have HZ : Hid (sameG c r c' r' xs ys = decide (xs = ys)) := by unfold sameG; rw [decide_eq_true (eq_of_beq h1'), decide_eq_true (eq_of_beq h2')]; rfl
      go_enter Tryd.func34, Tryd.ntmps34
      go_wp2_with fail
      refine (gsame_any a a' n cp n' cp' xs ys _ (HL.out.below B0.out) (HK.out.below B0.out)).mono ?_
      rintro e w5 ⟨he5, q5, hq5⟩
      obtain rfl := he5
      have B5 : Hid (Below w.heap.size w w5) := by rw [← hq5]; exact below_drewN B0.out q5
      clear hq5
      go_wp2_with fail
      go_ret
      exact ⟨by rw [HZ.out]; rfl, B5.out⟩
end Go.Proofs.YtlhcehealjdbdaaDoor
