/- Part 14 of the texts that GridPlays stands on, one behind the other. -/
import Derived.Test.YtlhcehealjdbdaaDoorP6
import Derived.Test.YtlhcehealjdbdaaDoorP4
import Derived.Deep.DeepCutAuto
import Derived.Test.YtlhcehealjdbdaaDoorP13
import Derived.Test.YtlhcehealjdbdaaDoorP10
import Derived.Test.YtlhcehealjdbdaaDoorP11
/- A grid of which a stretch was erased. -/
namespace Go.Proofs.YtlhcehealjdbdaaDoor
open Go.RowKit
set_option linter.unusedSimpArgs false
set_option linter.unusedVariables false
attribute [local go_sem] alloc_drewN setCell_drewN


/-- Behind k rows. -/
noncomputable def clF (C : Nat) (xs : List Glyph) (F E f b : Int) : Nat → List Glyph
  | 0 => xs
  | k + 1 => if F < (k : Int) * C + C ∧ (k : Int) * C < E then setRow (clF C xs F E f b k) C k (eraseP (rowOf C k (clF C xs F E f b k)) (F - (k : Int) * C) (E - (k : Int) * C) f b) else clF C xs F E f b k
noncomputable def clearP (c r : Int) (xs : List Glyph) (s t f b : Int) : List Glyph := if (gridMay c r xs && penMay f b) = true then clF c.toNat xs (max 0 s) (min t xs.length) f b r.toNat else []
theorem clF_ok {C R : Nat} {xs : List Glyph} {F E f b : Int} (h : GridOk C R xs) (hp : penMay f b = true) : ∀ k, k ≤ R → GridOk C R (clF C xs F E f b k)
  | 0, _ => h
  | k + 1, hk => by
    have ih := clF_ok (F := F) (E := E) h hp k (by omega)
    rw [clF]
    split
    · have hr := ih.2.2.2.2.2 k (by omega)
      have hm : (rowMay (rowOf C k (clF C xs F E f b k)) && penMay f b) = true := by rw [row_yes hr, hp]; rfl
      exact set_ok ih (by omega) ((erase_len hm).trans (row_len ih.2.2.2.2.1 (by omega))) (erase_row hm)
    · exact ih
def ClRel (w : World) (base g vc C R n : Nat) (f b d l : Int) (ys : List Glyph) (wr : World) : Prop :=
  CRow wr base (.slice (some ⟨g, 0, none⟩) n vc) ys ∧ Own wr w.heap.size 49 #[.int .i64 C, .int .i64 R, .slice (some ⟨g, 0, none⟩) n vc] ∧ Own wr (w.heap.size + 1) 26 #[.int .u32 f, .int .u32 b, .int .u8 d, .int .u16 l] ∧ Own wr (w.heap.size + 2) 49 #[.int .i64 0, .int .i64 0, .slice none 0 0] ∧ Below w.heap.size w wr
section
variable {w w1 w2 : World} {base g vc C R n : Nat} {f b d l : Int} {ys zs : List Glyph}
theorem ClRel.below (h : ClRel w base g vc C R n f b d l ys w1) (k : Below w1.heap.size w1 w2) : ClRel w base g vc C R n f b d l ys w2 :=
  ⟨h.1.below k, h.2.1.below k h.2.1.lt, h.2.2.1.below k h.2.2.1.lt, h.2.2.2.1.below k h.2.2.2.1.lt, h.2.2.2.2.trans (k.mono h.2.2.2.2.size)⟩
theorem ClRel.put (h : ClRel w base g vc C R n f b d l ys w1) (r : CRow w2 base (.slice (some ⟨g, 0, none⟩) n vc) zs) (k : w1.grownBy w2 (some g)) (h1 : w.heap.size + 3 ≤ g) : ClRel w base g vc C R n f b d l zs w2 :=
  ⟨r, h.2.1.grown k (fun e => by injection e with e; omega), h.2.2.1.grown k (fun e => by injection e with e; omega), h.2.2.2.1.grown k (fun e => by injection e with e; omega), below_grown h.2.2.2.2 k (by omega) h.2.2.2.2.size⟩
end
set_option maxRecDepth 10000 in
set_option maxHeartbeats 4000000 in
theorem gclear_any (c r s t f b d l : Int) (a : Option Addr) (n cp : Nat) (xs : List Glyph) (w : World) (hl : Cells w a n xs) (hcp : n ≤ cp) (ht : Tabs w) :
    Calls Tryd.prog 63 #[.agg #[.int .i64 c, .int .i64 r, .slice a n cp], .int .i64 s, .int .i64 t, .agg #[.int .u32 f, .int .u32 b, .int .u8 d, .int .u16 l]] w (GG (okI c r xs f b c) (okI c r xs f b r) (clearP c r xs s t f b) w) := by
  obtain rfl := hl.1
  have HL := Lib.hid hl
  have HT := Lib.hid ht
  clear hl ht
  obtain ⟨ok, hok⟩ : ∃ ok, (gridMay c r xs && penMay f b) = ok := ⟨_, rfl⟩
  have HGO := Lib.hid (fun w0 hB hT => gown_any c r f b d l a xs.length cp xs w0 (HL.out.below (w' := w0) hB) hcp hT)
  rw [hok] at HGO
  have B0 : Hid (Below w.heap.size w (((w.alloc (.cells #[.int .i64 c, .int .i64 r, .slice a xs.length cp] 49)).alloc (.cells #[.int .u32 f, .int .u32 b, .int .u8 d, .int .u16 l] 26)).alloc (.cells #[.int .i64 0, .int .i64 0, .slice none 0 0] 49))) := (((Below.refl _ _).alloc (Nat.le_refl _) _).alloc (by simp) _).alloc (by simp; omega) _
  have G0 : Hid (Own (((w.alloc (.cells #[.int .i64 c, .int .i64 r, .slice a xs.length cp] 49)).alloc (.cells #[.int .u32 f, .int .u32 b, .int .u8 d, .int .u16 l] 26)).alloc (.cells #[.int .i64 0, .int .i64 0, .slice none 0 0] 49)) w.heap.size 49 #[.int .i64 c, .int .i64 r, .slice a xs.length cp]) := ((Own.new w 49 _).alloc _).alloc _
  have P0' : Own (((w.alloc (.cells #[.int .i64 c, .int .i64 r, .slice a xs.length cp] 49)).alloc (.cells #[.int .u32 f, .int .u32 b, .int .u8 d, .int .u16 l] 26)).alloc (.cells #[.int .i64 0, .int .i64 0, .slice none 0 0] 49)) (w.heap.size + 1) 26 #[.int .u32 f, .int .u32 b, .int .u8 d, .int .u16 l] := by
    have h := (Own.new (w.alloc (.cells #[.int .i64 c, .int .i64 r, .slice a xs.length cp] 49)) 26 #[.int .u32 f, .int .u32 b, .int .u8 d, .int .u16 l]).alloc (.cells #[.int .i64 0, .int .i64 0, .slice none 0 0] 49)
    simpa using h
  have A0' : Own (((w.alloc (.cells #[.int .i64 c, .int .i64 r, .slice a xs.length cp] 49)).alloc (.cells #[.int .u32 f, .int .u32 b, .int .u8 d, .int .u16 l] 26)).alloc (.cells #[.int .i64 0, .int .i64 0, .slice none 0 0] 49)) (w.heap.size + 2) 49 #[.int .i64 0, .int .i64 0, .slice none 0 0] := by
    have h := Own.new ((w.alloc (.cells #[.int .i64 c, .int .i64 r, .slice a xs.length cp] 49)).alloc (.cells #[.int .u32 f, .int .u32 b, .int .u8 d, .int .u16 l] 26)) 49 #[.int .i64 0, .int .i64 0, .slice none 0 0]
    simpa using h
  have P0 := Lib.hid P0'
  have A0 := Lib.hid A0'
  have hz0 : w.heap.size + 3 ≤ (((w.alloc (.cells #[.int .i64 c, .int .i64 r, .slice a xs.length cp] 49)).alloc (.cells #[.int .u32 f, .int .u32 b, .int .u8 d, .int .u16 l] 26)).alloc (.cells #[.int .i64 0, .int .i64 0, .slice none 0 0] 49)).heap.size := by simp
  clear P0' A0'
  have g0 := Own.cell G0.out 0
  have g1 := Own.cell G0.out 1
  have g2 := Own.cell G0.out 2
  simp only [List.getElem?_toArray, List.getElem?_cons_zero, List.getElem?_cons_succ] at g0 g1 g2
  have e0 := Own.cell P0.out 0
  have e1 := Own.cell P0.out 1
  have e2 := Own.cell P0.out 2
  have e3 := Own.cell P0.out 3
  simp only [List.getElem?_toArray, List.getElem?_cons_zero, List.getElem?_cons_succ] at e0 e1 e2 e3
  go_enter Tryd.func63, Tryd.ntmps63
  go_wp2_with fail
  refine (HGO.out _ B0.out (HT.out.below B0.out)).mono ?_
  clear HGO
  generalize ((w.alloc (.cells #[.int .i64 c, .int .i64 r, .slice a xs.length cp] 49)).alloc (.cells #[.int .u32 f, .int .u32 b, .int .u8 d, .int .u16 l] 26)).alloc (.cells #[.int .i64 0, .int .i64 0, .slice none 0 0] 49) = w0 at B0 G0 P0 A0 hz0 g0 g1 g2 e0 e1 e2 e3 ⊢
  clear g0 g1 g2 e0 e1 e2 e3
  cases ok with
  | false =>
    have HF : Hid (okI c r xs f b c = 0 ∧ okI c r xs f b r = 0 ∧ clearP c r xs s t f b = []) := by unfold okI clearP; rw [hok]; exact ⟨rfl, rfl, rfl⟩
    clear hok
    rintro e w1 ⟨rfl, b1⟩
    have B1 : Hid (Below w.heap.size w w1) := B0.out.trans (b1.mono B0.out.size)
    have G1 := Lib.hid (G0.out.below b1 (by omega))
    have P1 := Lib.hid (P0.out.below b1 (by omega))
    have A1 := Lib.hid (A0.out.below b1 (by omega))
    have hz1 : w.heap.size + 3 ≤ w1.heap.size := Nat.le_trans hz0 b1.size
    clear b1
    have hG := G1.out
    go_upto_region 2 with (first
      | (refine gvstore_list rfl _ _ rfl (c := 0) (r := 0) (sa := none) (sn := 0) (sc := 0) rfl rfl hG ?_; intro w2 o2 k2; have G2 := Lib.hid o2; have B2 : Hid (Below w.heap.size w w2) := below_grown B1.out k2 (Nat.le_refl _) B1.out.size; have A2 := Lib.hid (A1.out.grown k2 (by intro e; injection e with e; omega)); clear o2 k2 hG)
      | go_in)
    (try simp only [Act.put])
    have g0 := Own.cell G2.out 0
    have g1 := Own.cell G2.out 1
    have g2 := Own.cell G2.out 2
    simp only [List.getElem?_toArray, List.getElem?_cons_zero, List.getElem?_cons_succ] at g0 g1 g2
    have hA := A2.out
    go_wp2_with (first
      | (refine gvstore_list rfl _ _ rfl (c := 0) (r := 0) (sa := none) (sn := 0) (sc := 0) rfl rfl hA ?_; intro w3 o3 k3; have O3 := Lib.hid o3; have B3 : Hid (Below w.heap.size w w3) := below_grown B2.out k3 (by omega) B2.out.size; clear o3 k3 hA)
      | go_in)
    clear g0 g1 g2
    have g0 := Own.cell O3.out 0
    have g1 := Own.cell O3.out 1
    have g2 := Own.cell O3.out 2
    simp only [List.getElem?_toArray, List.getElem?_cons_zero, List.getElem?_cons_succ] at g0 g1 g2
    (try simp only [Exit.inBlock, Exit.then])
    refine bodyPost_ret (v := .agg #[.int .i64 0, .int .i64 0, .slice none 0 0]) (by simp [results, Tryd.results63, go_sem, g0, g1, g2]) rfl ?_
    obtain ⟨h1, h2, h3⟩ := HF.out
    rw [h1, h2, h3]
    exact ⟨_, rfl, CRow.nil _ _, B3.out⟩
  | true =>
    rintro e w1 ⟨v1, rfl, r1, b1⟩
    have B1 : Hid (Below w.heap.size w w1) := B0.out.trans (b1.mono B0.out.size)
    have G1 := Lib.hid (G0.out.below b1 (by omega))
    have P1 := Lib.hid (P0.out.below b1 (by omega))
    have A1 := Lib.hid (A0.out.below b1 (by omega))
    have hz1 : w.heap.size + 3 ≤ w1.heap.size := Nat.le_trans hz0 b1.size
    obtain ⟨va, vc, rfl, _⟩ := r1.cells
    obtain ⟨hmay, hpen⟩ := Bool.and_eq_true_iff.1 hok
    obtain ⟨C, R, rfl, rfl, hgo⟩ := gmay_iff.1 hmay
    have HGK := Lib.hid hgo
    have HPEN := Lib.hid hpen
    obtain ⟨o1, o2, o3, o4, o5, _⟩ := hgo
    have hpos : 0 < C * R := Nat.mul_pos (by omega) (by omega)
    have hbnd := mul_bound o2 o4
    rw [← o5] at hbnd
    obtain ⟨g, rfl⟩ := crow_addr r1 (by omega)
    have hgb : w0.heap.size ≤ g := (crow_at r1 (k := 0) (by omega)).2.1
    have hvc := crow_cap r1 (by omega)
    have R1 : Hid (CRow w1 w0.heap.size (.slice (some ⟨g, 0, none⟩) xs.length vc) xs) := r1
    have HO5 := Lib.hid o5
    clear r1 b1 o5 hpen hmay
    have HOI : Hid (okI C R xs f b C = C ∧ okI C R xs f b R = R) := by unfold okI; rw [hok]; exact ⟨rfl, rfl⟩
    obtain ⟨F, hF⟩ : ∃ F, max 0 s = F := ⟨_, rfl⟩
    obtain ⟨E, hE⟩ : ∃ E, min t (xs.length : Int) = E := ⟨_, rfl⟩
    have hcp0 : clearP C R xs s t f b = clF C xs F E f b R := by
      unfold clearP
      rw [hok, if_pos rfl, Int.toNat_natCast, Int.toNat_natCast, hF, hE]
    have HCP := Lib.hid hcp0
    have hF0 : 0 ≤ F := by omega
    have hE0 : E ≤ xs.length := by omega
    have HFF := Lib.hid hF
    have HEE := Lib.hid hE
    clear hok hcp0 hF hE
    have hG := G1.out
    go_upto_region 2 with (first
      | (refine gvstore_list rfl _ _ rfl (c := C) (r := R) (sa := some ⟨g, 0, none⟩) (sn := xs.length) (sc := vc) rfl rfl hG ?_; intro w2 o2' k2; have L2 : Hid (ClRel w w0.heap.size g vc C R xs.length f b d l (xs) w2) := ⟨crow_other R1.out k2 (by omega), o2', P1.out.grown k2 (by intro e; injection e with e; omega), A1.out.grown k2 (by intro e; injection e with e; omega), below_grown B1.out k2 (Nat.le_refl _) B1.out.size⟩; clear o2' k2 hG)
      | go_in)
    (try simp only [Act.put])
    clear R1 G1 P1 A1 B1
    have g0 := Own.cell L2.out.2.1 0
    have g1 := Own.cell L2.out.2.1 1
    have g2 := Own.cell L2.out.2.1 2
    simp only [List.getElem?_toArray, List.getElem?_cons_zero, List.getElem?_cons_succ] at g0 g1 g2
    go_upto_region 4 with fail
    go_cut [1, 2] (fun v u wc => v = .int .i64 F ∧ u = .int .i64 E ∧ Hid (ClRel w w0.heap.size g vc C R xs.length f b d l (xs) wc))
    case first =>
      have hF := HFF.out
      have hE := HEE.out
      have S3 : Hid ((w2.drew.cell? ⟨w.heap.size, 0, none⟩ = some (.int .i64 C) ∧ w2.drew.cell? ⟨w.heap.size, 1, none⟩ = some (.int .i64 R) ∧ w2.drew.cell? ⟨w.heap.size, 2, none⟩ = some (.slice (some ⟨g, 0, none⟩) xs.length vc)) ∧ (w2.drew.cell? ⟨w.heap.size + 1, 0, none⟩ = some (.int .u32 f) ∧ w2.drew.cell? ⟨w.heap.size + 1, 1, none⟩ = some (.int .u32 b) ∧ w2.drew.cell? ⟨w.heap.size + 1, 2, none⟩ = some (.int .u8 d) ∧ w2.drew.cell? ⟨w.heap.size + 1, 3, none⟩ = some (.int .u16 l))) := ⟨⟨Own.cell L2.out.2.1 0, Own.cell L2.out.2.1 1, Own.cell L2.out.2.1 2⟩, ⟨Own.cell L2.out.2.2.1 0, Own.cell L2.out.2.2.1 1, Own.cell L2.out.2.2.1 2, Own.cell L2.out.2.2.1 3⟩⟩
      have D3 : Hid (ClRel w w0.heap.size g vc C R xs.length f b d l (xs) w2.drew) := ⟨L2.out.1, L2.out.2.1, L2.out.2.2.1, L2.out.2.2.2.1, below_drewN L2.out.2.2.2.2 1⟩
      refine wp_region_bits_at (S := fun w' => (w'.cell? ⟨w.heap.size, 0, none⟩ = some (.int .i64 C) ∧ w'.cell? ⟨w.heap.size, 1, none⟩ = some (.int .i64 R) ∧ w'.cell? ⟨w.heap.size, 2, none⟩ = some (.slice (some ⟨g, 0, none⟩) xs.length vc)) ∧ (w'.cell? ⟨w.heap.size + 1, 0, none⟩ = some (.int .u32 f) ∧ w'.cell? ⟨w.heap.size + 1, 1, none⟩ = some (.int .u32 b) ∧ w'.cell? ⟨w.heap.size + 1, 2, none⟩ = some (.int .u8 d) ∧ w'.cell? ⟨w.heap.size + 1, 3, none⟩ = some (.int .u16 l))) [(0, true), (1, true), (2, true), (3, true), (4, true), (5, true), (6, true), (7, true), (8, true)] [] (by kernel_rfl) (by kernel_rfl) (fun c a d v w h => by cases d <;> exact h) S3.out ?_
      simp only [bits_, bitOf, List.getElem?_cons_zero, List.getElem?_cons_succ, List.contains_nil]
      repeat (first | (refine bits_take (v := ?_) (by rfl) ?_ ?_; rotate_left; (· intro w' hS; obtain ⟨⟨s0, s1, s2⟩, s3, s4, s5, s6⟩ := hS; go_simp; (try (go_ints; try go_simp)); with_reducible rfl); (try simp only [Act.put, List.setIfInBounds_toArray, List.set_cons_zero, List.set_cons_succ])) | (refine bits_skip (by rfl) ?_; (try simp only [Act.put, List.setIfInBounds_toArray, List.set_cons_zero, List.set_cons_succ])))
      refine bits_nil ?_
      refine Met.intro ?_
      go_step
      go_meet
      exact ⟨congrArg (Value.int .i64) (by omega), congrArg (Value.int .i64) (by omega), D3⟩
    case rest =>
      obtain ⟨rfl, rfl, L3⟩ := hcut
      rename World => w3
      clear g0 g1 g2 L2
      obtain ⟨S, hS⟩ : ∃ S, S = clF C xs F E f b := ⟨_, rfl⟩
      have HS := Lib.hid hS
      have HSN : Hid (∀ k, S (k + 1) = if F < (k : Int) * C + C ∧ (k : Int) * C < E then setRow (S k) C k (eraseP (rowOf C k (S k)) (F - (k : Int) * C) (E - (k : Int) * C) f b) else S k) := fun k => by rw [hS]; rfl
      have HSG : Hid (∀ k, k ≤ R → GridOk C R (S k)) := fun k hk => by rw [hS]; exact clF_ok HGK.out HPEN.out k hk
      have HL0 : Hid (ClRel w w0.heap.size g vc C R xs.length f b d l (S 0) w3) := by rw [hS]; exact L3.out
      clear hS L3
      have g0 := Own.cell HL0.out.2.1 0
      have g1 := Own.cell HL0.out.2.1 1
      have g2 := Own.cell HL0.out.2.1 2
      simp only [List.getElem?_toArray, List.getElem?_cons_zero, List.getElem?_cons_succ] at g0 g1 g2
      go_wp2_with fail
      clear g0 g1 g2
      go_loopw [30] (fun v wr => ∃ q : Nat, q ≤ R ∧ v = .int .i64 q ∧ Hid (ClRel w w0.heap.size g vc C R xs.length f b d l (S q) wr)) (fun v _ => R - (intOf v).toNat)
      case atStart => exact ⟨0, by omega, rfl, HL0⟩
      case round =>
        obtain ⟨q, hq1, rfl, HR⟩ := hrel
        rename World => wr
        clear HL0
        by_cases hq : q < R
        · have hdq : decide (q < R) = true := decide_eq_true hq
          have HQ : Hid (q < R) := hq
          have hmr := mul_row (c := C) hq
          have hgk := HSG.out q (by omega)
          have HGC := Lib.hid (fun wz => grow_any C q R g 0 xs.length vc R wz o1 o2 hq o4 HO5.out hvc)
          have hnx := HSN.out q
          obtain ⟨Z, hZ⟩ : ∃ Z, q * C = Z := ⟨_, rfl⟩
          have HZ := Lib.hid hZ
          have k1 : (q : Int) * (C : Int) = (Z : Int) := by rw [← hZ]; exact (Int.natCast_mul q C).symm
          rw [hZ] at HGC hmr
          rw [k1] at hnx
          have HNX := Lib.hid hnx
          have hZn : Z + C ≤ xs.length := by rw [HO5.out]; exact hmr
          have hrok := hgk.2.2.2.2.2 q hq
          have hmm : (rowMay (rowOf C q (S q)) && penMay f b) = true := by rw [row_yes hrok, HPEN.out]; rfl
          have HTL : Hid ((eraseP (rowOf C q (S q)) (F - (Z : Int)) (E - (Z : Int)) f b).length = C) := (erase_len hmm).trans (row_len hgk.2.2.2.2.1 hq)
          have HSLQ : Hid ((S q).length = C * R) := hgk.2.2.2.2.1
          obtain ⟨t, htt⟩ : ∃ t, decide (F < (Z : Int) + C ∧ (Z : Int) < E) = t := ⟨_, rfl⟩
          have HTT := Lib.hid htt
          have hq24 : q < 24 := by omega
          have hZb : Z ≤ 1920 := by omega
          clear hZ hmr hgk hnx hrok hmm htt hq
          have g0 := Own.cell HR.out.2.1 0
          have g1 := Own.cell HR.out.2.1 1
          have g2 := Own.cell HR.out.2.1 2
          simp only [List.getElem?_toArray, List.getElem?_cons_zero, List.getElem?_cons_succ] at g0 g1 g2
          go_upto_region 9 with fail
          go_cut [47] (fun v wc => v = .bool t ∧ wr = wc)
          case first =>
            have htt := HTT.out
            cases c1 : decide (F < (Z : Int) + (C : Int)) with
            | false =>
              have e1 := of_decide_eq_false c1
              obtain rfl : t = false := by rw [← htt]; exact decide_eq_false (fun k => e1 k.1)
              clear htt e1
              go_wp2_with fail
              all_goals (go_meet; exact ⟨rfl, rfl⟩)
            | true =>
              have e1 := of_decide_eq_true c1
              cases c2 : decide ((Z : Int) < E) with
              | false =>
                have e2 := of_decide_eq_false c2
                obtain rfl : t = false := by rw [← htt]; exact decide_eq_false (fun k => e2 k.2)
                clear htt e1 e2
                go_wp2_with fail
                all_goals (go_meet; exact ⟨rfl, rfl⟩)
              | true =>
                have e2 := of_decide_eq_true c2
                obtain rfl : t = true := by rw [← htt]; exact decide_eq_true ⟨e1, e2⟩
                clear htt e1 e2
                go_wp2_with fail
                all_goals (go_meet; exact ⟨rfl, rfl⟩)
          case rest =>
            obtain ⟨rfl, rfl⟩ := hcut
            cases t with
            | false =>
              have hnx : S (q + 1) = S q := by rw [HNX.out, if_neg (of_decide_eq_false HTT.out)]
              have LN2 : Hid (ClRel w w0.heap.size g vc C R xs.length f b d l (S (q + 1)) wr) := by rw [hnx]; exact HR.out
              clear hnx
              go_wp2_with fail
              go_roundw
              case rel => exact ⟨q + 1, HQ.out, by go_num, LN2⟩
              case measure => have := HQ.out; simp [intOf]; omega
            | true =>
              have hcond := of_decide_eq_true HTT.out
              have e1 := hcond.1
              have e2 := hcond.2
              have hnx : S (q + 1) = setRow (S q) C q (eraseP (rowOf C q (S q)) (F - (Z : Int)) (E - (Z : Int)) f b) := by rw [HNX.out, if_pos hcond]
              have HNY := Lib.hid hnx
              have L4 : Hid (ClRel w w0.heap.size g vc C R xs.length f b d l (S q) wr.drew) := ⟨HR.out.1, HR.out.2.1, HR.out.2.2.1, HR.out.2.2.2.1, below_drewN HR.out.2.2.2.2 1⟩
              have S4 : Hid ((wr.drew.cell? ⟨w.heap.size, 0, none⟩ = some (.int .i64 C) ∧ wr.drew.cell? ⟨w.heap.size, 1, none⟩ = some (.int .i64 R) ∧ wr.drew.cell? ⟨w.heap.size, 2, none⟩ = some (.slice (some ⟨g, 0, none⟩) xs.length vc)) ∧ (wr.drew.cell? ⟨w.heap.size + 1, 0, none⟩ = some (.int .u32 f) ∧ wr.drew.cell? ⟨w.heap.size + 1, 1, none⟩ = some (.int .u32 b) ∧ wr.drew.cell? ⟨w.heap.size + 1, 2, none⟩ = some (.int .u8 d) ∧ wr.drew.cell? ⟨w.heap.size + 1, 3, none⟩ = some (.int .u16 l))) := ⟨⟨Own.cell L4.out.2.1 0, Own.cell L4.out.2.1 1, Own.cell L4.out.2.1 2⟩, ⟨Own.cell L4.out.2.2.1 0, Own.cell L4.out.2.2.1 1, Own.cell L4.out.2.2.1 2, Own.cell L4.out.2.2.1 3⟩⟩
              clear hnx hcond HR g0 g1 g2
              go_wp2_with fail
              refine wp_region_bits_at (S := fun w' => (w'.cell? ⟨w.heap.size, 0, none⟩ = some (.int .i64 C) ∧ w'.cell? ⟨w.heap.size, 1, none⟩ = some (.int .i64 R) ∧ w'.cell? ⟨w.heap.size, 2, none⟩ = some (.slice (some ⟨g, 0, none⟩) xs.length vc)) ∧ (w'.cell? ⟨w.heap.size + 1, 0, none⟩ = some (.int .u32 f) ∧ w'.cell? ⟨w.heap.size + 1, 1, none⟩ = some (.int .u32 b) ∧ w'.cell? ⟨w.heap.size + 1, 2, none⟩ = some (.int .u8 d) ∧ w'.cell? ⟨w.heap.size + 1, 3, none⟩ = some (.int .u16 l))) [(0, true), (1, true), (3, true), (4, true), (6, true), (7, true), (8, true), (9, true), (10, true), (11, true), (12, true), (2, false), (5, false), (13, false), (14, false)] [14] (by kernel_rfl) (by kernel_rfl) (fun c a d v w h => by cases d <;> exact h) S4.out ?_
              simp only [bits_, bitOf, List.getElem?_cons_zero, List.getElem?_cons_succ, List.contains_nil, List.contains_cons, Nat.reduceBEq, Bool.or_false]
              repeat (first | (refine bits_take (v := ?_) (by rfl) ?_ ?_; rotate_left; (· intro w' hS; obtain ⟨⟨s0, s1, s2⟩, s3, s4, s5, s6⟩ := hS; go_simp; (try (go_ints; try go_simp)); with_reducible rfl); (try simp only [Act.put, List.setIfInBounds_toArray, List.set_cons_zero, List.set_cons_succ])) | (refine bits_skip (by rfl) ?_; (try simp only [Act.put, List.setIfInBounds_toArray, List.set_cons_zero, List.set_cons_succ])))
              refine bits_eff (by rfl) (fun K hK => ?_)
              go_simp
              (try go_ints)
              refine (HGC.out _).mono ?_
              rintro e w5 ⟨rfl, b5⟩
              rw [Nat.zero_add]
              have L5 := Lib.hid (L4.out.below b5)
              have S5 : Hid ((w5.cell? ⟨w.heap.size, 0, none⟩ = some (.int .i64 C) ∧ w5.cell? ⟨w.heap.size, 1, none⟩ = some (.int .i64 R) ∧ w5.cell? ⟨w.heap.size, 2, none⟩ = some (.slice (some ⟨g, 0, none⟩) xs.length vc)) ∧ (w5.cell? ⟨w.heap.size + 1, 0, none⟩ = some (.int .u32 f) ∧ w5.cell? ⟨w.heap.size + 1, 1, none⟩ = some (.int .u32 b) ∧ w5.cell? ⟨w.heap.size + 1, 2, none⟩ = some (.int .u8 d) ∧ w5.cell? ⟨w.heap.size + 1, 3, none⟩ = some (.int .u16 l))) := ⟨⟨Own.cell L5.out.2.1 0, Own.cell L5.out.2.1 1, Own.cell L5.out.2.1 2⟩, ⟨Own.cell L5.out.2.2.1 0, Own.cell L5.out.2.2.1 1, Own.cell L5.out.2.2.1 2, Own.cell L5.out.2.2.1 3⟩⟩
              clear b5
              refine hK _ _ ?_ ?_
              · exact S5.out
              clear hK K
              (try simp only [Act.put, List.setIfInBounds_toArray, List.set_cons_zero, List.set_cons_succ])
              repeat (first | (refine bits_take (v := ?_) (by rfl) ?_ ?_; rotate_left; (· intro w' hS; obtain ⟨⟨s0, s1, s2⟩, s3, s4, s5, s6⟩ := hS; go_simp; (try (go_ints; try go_simp)); with_reducible rfl); (try simp only [Act.put, List.setIfInBounds_toArray, List.set_cons_zero, List.set_cons_succ])) | (refine bits_skip (by rfl) ?_; (try simp only [Act.put, List.setIfInBounds_toArray, List.set_cons_zero, List.set_cons_succ])))
              refine bits_eff (by rfl) (fun K hK => ?_)
              go_simp
              (try go_ints)
              refine (HGC.out _).mono ?_
              rintro e w6 ⟨rfl, b6⟩
              rw [Nat.zero_add]
              have L6 := Lib.hid (L5.out.below b6)
              have S6 : Hid ((w6.cell? ⟨w.heap.size, 0, none⟩ = some (.int .i64 C) ∧ w6.cell? ⟨w.heap.size, 1, none⟩ = some (.int .i64 R) ∧ w6.cell? ⟨w.heap.size, 2, none⟩ = some (.slice (some ⟨g, 0, none⟩) xs.length vc)) ∧ (w6.cell? ⟨w.heap.size + 1, 0, none⟩ = some (.int .u32 f) ∧ w6.cell? ⟨w.heap.size + 1, 1, none⟩ = some (.int .u32 b) ∧ w6.cell? ⟨w.heap.size + 1, 2, none⟩ = some (.int .u8 d) ∧ w6.cell? ⟨w.heap.size + 1, 3, none⟩ = some (.int .u16 l))) := ⟨⟨Own.cell L6.out.2.1 0, Own.cell L6.out.2.1 1, Own.cell L6.out.2.1 2⟩, ⟨Own.cell L6.out.2.2.1 0, Own.cell L6.out.2.2.1 1, Own.cell L6.out.2.2.1 2, Own.cell L6.out.2.2.1 3⟩⟩
              have HPART : Hid (Cells w6 (some ⟨g, Z * 6, none⟩) C (rowOf C q (S q))) := by
                have h := cells_part (cells_of L6.out.1) (s := Z) (m := C) hZn
                rw [Nat.zero_add, ← HZ.out] at h
                rw [← HZ.out]
                exact h
              clear b6
              refine hK _ _ ?_ ?_
              · exact S6.out
              clear hK K
              (try simp only [Act.put, List.setIfInBounds_toArray, List.set_cons_zero, List.set_cons_succ])
              repeat (first | (refine bits_take (v := ?_) (by rfl) ?_ ?_; rotate_left; (· intro w' hS; obtain ⟨⟨s0, s1, s2⟩, s3, s4, s5, s6⟩ := hS; go_simp; (try (go_ints; try go_simp)); with_reducible rfl); (try simp only [Act.put, List.setIfInBounds_toArray, List.set_cons_zero, List.set_cons_succ])) | (refine bits_skip (by rfl) ?_; (try simp only [Act.put, List.setIfInBounds_toArray, List.set_cons_zero, List.set_cons_succ])))
              refine bits_eff (by rfl) (fun K hK => ?_)
              go_simp
              (try go_ints)
              refine (erase_any _ C C _ _ f b d l (rowOf C q (S q)) w6 HPART.out (HT.out.below L6.out.2.2.2.2)).mono ?_
              rintro e w7 ⟨v7, rfl, r7, b7⟩
              have L7 := Lib.hid (L6.out.below b7)
              have S7 : Hid ((w7.cell? ⟨w.heap.size, 0, none⟩ = some (.int .i64 C) ∧ w7.cell? ⟨w.heap.size, 1, none⟩ = some (.int .i64 R) ∧ w7.cell? ⟨w.heap.size, 2, none⟩ = some (.slice (some ⟨g, 0, none⟩) xs.length vc)) ∧ (w7.cell? ⟨w.heap.size + 1, 0, none⟩ = some (.int .u32 f) ∧ w7.cell? ⟨w.heap.size + 1, 1, none⟩ = some (.int .u32 b) ∧ w7.cell? ⟨w.heap.size + 1, 2, none⟩ = some (.int .u8 d) ∧ w7.cell? ⟨w.heap.size + 1, 3, none⟩ = some (.int .u16 l))) := ⟨⟨Own.cell L7.out.2.1 0, Own.cell L7.out.2.1 1, Own.cell L7.out.2.1 2⟩, ⟨Own.cell L7.out.2.2.1 0, Own.cell L7.out.2.2.1 1, Own.cell L7.out.2.2.1 2, Own.cell L7.out.2.2.1 3⟩⟩
              obtain ⟨ta, tc, rfl, tl⟩ := r7.cells
              have TL := Lib.hid tl
              clear b7 r7 tl
              refine hK _ _ ?_ ?_
              · exact S7.out
              clear hK K
              (try simp only [Act.put, List.setIfInBounds_toArray, List.set_cons_zero, List.set_cons_succ])
              repeat (first | (refine bits_take (v := ?_) (by rfl) ?_ ?_; rotate_left; (· intro w' hS; obtain ⟨⟨s0, s1, s2⟩, s3, s4, s5, s6⟩ := hS; go_simp; (try (go_ints; try go_simp)); with_reducible rfl); (try simp only [Act.put, List.setIfInBounds_toArray, List.set_cons_zero, List.set_cons_succ])) | (refine bits_skip (by rfl) ?_; (try simp only [Act.put, List.setIfInBounds_toArray, List.set_cons_zero, List.set_cons_succ])))
              refine bits_tail (by rfl) (fun K hK => ?_)
              refine gpart_op _ _ rfl Z C rfl rfl L7.out.1 TL.out ?_ ?_ ?_ fun w8 r8 k8 => ?_
              · rw [HTL.out]; exact (Nat.min_self C).symm
              · exact hZn
              · exact fun _ => rfl
              refine hK _ _ ?_
              clear hK K
              (try simp only [Act.put])
              repeat (first | (refine bits_take (v := ?_) (by rfl) ?_ ?_; rotate_left; (· intro w' hS; obtain ⟨⟨s0, s1, s2⟩, s3, s4, s5, s6⟩ := hS; go_simp; (try (go_ints; try go_simp)); with_reducible rfl); (try simp only [Act.put, List.setIfInBounds_toArray, List.set_cons_zero, List.set_cons_succ])) | (refine bits_skip (by rfl) ?_; (try simp only [Act.put, List.setIfInBounds_toArray, List.set_cons_zero, List.set_cons_succ])))
              refine bits_nil ?_
              have R8 : Hid (CRow w8 w0.heap.size (.slice (some ⟨g, 0, none⟩) xs.length vc) (S (q + 1))) := by
                rw [List.take_of_length_le (l := eraseP (rowOf C q (S q)) (F - (Z : Int)) (E - (Z : Int)) f b) (by rw [HTL.out]; exact Nat.le_refl _)] at r8
                rw [HNY.out]
                unfold setRow
                rw [HZ.out]
                exact r8
              have L8 : Hid (ClRel w w0.heap.size g vc C R xs.length f b d l (S (q + 1)) w8) := L7.out.put R8.out k8 (by omega)
              clear r8 k8 R8
              go_wp2_with fail
              go_roundw
              case rel => exact ⟨q + 1, HQ.out, by go_num, L8⟩
              case measure => have := HQ.out; simp [intOf]; omega
        · obtain rfl : R = q := by omega
          have hdq : decide (R < R) = false := decide_eq_false hq
          clear hq
          have A8 := Lib.hid HR.out.2.2.2.1
          have B8 := Lib.hid HR.out.2.2.2.2
          have R8 := Lib.hid HR.out.1
          have hA := A8.out
          have g0 := Own.cell HR.out.2.1 0
          have g1 := Own.cell HR.out.2.1 1
          have g2 := Own.cell HR.out.2.1 2
          simp only [List.getElem?_toArray, List.getElem?_cons_zero, List.getElem?_cons_succ] at g0 g1 g2
          go_wp2_with (first
            | (refine gvstore_list rfl _ _ rfl (c := C) (r := R) (sa := some ⟨g, 0, none⟩) (sn := xs.length) (sc := vc) rfl rfl hA ?_; intro w9 o9 k9; have O9 := Lib.hid o9; have B9 : Hid (Below w.heap.size w w9) := below_grown B8.out k9 (by omega) B8.out.size; have R9 := Lib.hid (crow_other R8.out k9 (by omega)); clear o9 k9 hA)
            | go_in)
          clear g0 g1 g2
          have g0 := Own.cell O9.out 0
          have g1 := Own.cell O9.out 1
          have g2 := Own.cell O9.out 2
          simp only [List.getElem?_toArray, List.getElem?_cons_zero, List.getElem?_cons_succ] at g0 g1 g2
          (try simp only [Exit.inBlock, Exit.then])
          refine bodyPost_ret (v := .agg #[.int .i64 C, .int .i64 R, .slice (some ⟨g, 0, none⟩) xs.length vc]) (by simp [results, Tryd.results63, go_sem, g0, g1, g2]) rfl ?_
          rw [HOI.out.1, HOI.out.2, HCP.out, ← HS.out]
          exact ⟨_, rfl, R9.out.up B0.out.size, B9.out⟩
end Go.Proofs.YtlhcehealjdbdaaDoor
/- The document's Clear, in plain Lean: each row's stretch erased. -/
namespace Go.Proofs.YtlhcehealjdbdaaDoor
open Go.RowKit
set_option linter.unusedSimpArgs false
set_option linter.unusedVariables false

theorem erase_same {xs : List Glyph} {s t u v f b : Int} (h : ∀ i : Nat, i < xs.length → ((s ≤ i ∧ (i : Int) < t) ↔ (u ≤ i ∧ (i : Int) < v))) : eraseW xs s t f b = eraseW xs u v f b := by
  unfold eraseW
  have e : erasePk xs s t b xs.length = erasePk xs u v b xs.length := by
    unfold erasePk
    refine List.map_congr_left fun i hi => ?_
    have hi' : i < xs.length := List.mem_range.1 hi
    have k := h i hi'
    by_cases q : s ≤ i ∧ (i : Int) < t
    · rw [if_pos ⟨hi', q⟩, if_pos ⟨hi', k.1 q⟩]
    · rw [if_neg (fun z => q z.2), if_neg (fun z => q (k.2 z.2))]
  rw [e]
theorem erase_none {xs : List Glyph} {s t f b : Int} (hok : (rowMay xs && penMay f b) = true) (h : ∀ i : Nat, i < xs.length → ¬ (s ≤ i ∧ (i : Int) < t)) : eraseW xs s t f b = xs := by
  have e : erasePk xs s t b xs.length = erasePk xs s t b 0 := by
    unfold erasePk
    refine List.map_congr_left fun i hi => ?_
    have hi' : i < xs.length := List.mem_range.1 hi
    rw [if_neg (fun z => h i hi' z.2), if_neg (fun z => absurd z.1 (by omega))]
  unfold eraseW
  rw [if_pos hok, e, erase_zero]
  exact mend_same (row_iff.1 (Bool.and_eq_true_iff.1 hok).1)
theorem set_self {C R q : Nat} {xs : List Glyph} (hl : xs.length = C * R) (hq : q < R) : setRow xs C q (rowOf C q xs) = xs := by
  have hr := row_len hl hq
  refine grid_ext (setRow_len hl hq hr) hl fun y hy => ?_
  rw [rowOf_set hl hq hy hr]
  split
  · rename_i e
    rw [e]
  · rfl
theorem clF_step {C R q : Nat} {xs : List Glyph} {s t u v f b : Int} (h : GridOk C R xs) (hp : penMay f b = true) (hq : q < R)
    (hin : ∀ i : Nat, i < C → ((s ≤ (q : Int) * C + i ∧ (q : Int) * C + i < t) ↔ (u ≤ i ∧ (i : Int) < v))) :
    rowsL C R (clF C xs (max 0 s) (min t xs.length) f b (q + 1)) = (rowsL C R (clF C xs (max 0 s) (min t xs.length) f b q)).set q (eraseW (rowOf C q (clF C xs (max 0 s) (min t xs.length) f b q)) u v f b) := by
  have hg := clF_ok (F := max 0 s) (E := min t xs.length) h hp q (by omega)
  have hn : xs.length = C * R := h.2.2.2.2.1
  have hmr := mul_row (c := C) hq
  have k1 : (q : Int) * (C : Int) = ((q * C : Nat) : Int) := (Int.natCast_mul q C).symm
  rw [clF]
  obtain ⟨Y, hY⟩ : ∃ Y, clF C xs (max 0 s) (min t xs.length) f b q = Y := ⟨_, rfl⟩
  rw [hY] at hg ⊢
  rw [k1] at hin ⊢
  obtain ⟨Z, hZ⟩ : ∃ Z, q * C = Z := ⟨_, rfl⟩
  rw [hZ] at hin hmr ⊢
  have hrl := row_len hg.2.2.2.2.1 hq
  have hok : (rowMay (rowOf C q Y) && penMay f b) = true := by rw [row_yes (hg.2.2.2.2.2 q hq), hp]; rfl
  have hel : (eraseW (rowOf C q Y) u v f b).length = C := by rw [← erase_want]; exact (erase_len hok).trans hrl
  rw [rows_set hg.2.2.2.2.1 hq hel]
  congr 1
  split
  · rename_i hc
    rw [erase_want]
    congr 1
    refine erase_same fun i hi => ?_
    rw [hrl] at hi
    have := hin i hi
    constructor
    · intro k
      exact this.1 ⟨by omega, by omega⟩
    · intro k
      have := this.2 k
      exact ⟨by omega, by omega⟩
  · rename_i hc
    rw [erase_none hok (fun i hi k => hc ?_), set_self hg.2.2.2.2.1 hq]
    rw [hrl] at hi
    have := (hin i hi).2 k
    exact ⟨by omega, by omega⟩
theorem clF_stay {C R q : Nat} {xs : List Glyph} {s t f b : Int} (h : GridOk C R xs) (hp : penMay f b = true) (hq : q < R)
    (hin : ∀ i : Nat, i < C → ¬ (s ≤ (q : Int) * C + i ∧ (q : Int) * C + i < t)) : rowsL C R (clF C xs (max 0 s) (min t xs.length) f b (q + 1)) = rowsL C R (clF C xs (max 0 s) (min t xs.length) f b q) := by
  have hg := clF_ok (F := max 0 s) (E := min t xs.length) h hp q (by omega)
  rw [clF_step h hp hq (u := 0) (v := 0) (fun i hi => ⟨fun k => absurd k (hin i hi), fun k => by omega⟩)]
  obtain ⟨Y, hY⟩ : ∃ Y, clF C xs (max 0 s) (min t xs.length) f b q = Y := ⟨_, rfl⟩
  rw [hY] at hg ⊢
  have hrl := row_len hg.2.2.2.2.1 hq
  have hok : (rowMay (rowOf C q Y) && penMay f b) = true := by rw [row_yes (hg.2.2.2.2.2 q hq), hp]; rfl
  rw [erase_none hok (fun i _ k => by omega), rows_set hg.2.2.2.2.1 hq hrl, set_self hg.2.2.2.2.1 hq]
/-- The stretch met so far in a row: what the document's two numbers say behind x cells. -/
def Met2 (s t : Int) (Z x : Nat) (u v : Int) : Prop :=
  (u = -1 ∧ v = -1 ∧ ∀ i : Nat, i < x → ¬ (s ≤ (Z : Int) + i ∧ (Z : Int) + i < t)) ∨ (0 ≤ u ∧ u < v ∧ v ≤ x ∧ ∀ i : Nat, i < x → ((s ≤ (Z : Int) + i ∧ (Z : Int) + i < t) ↔ (u ≤ i ∧ (i : Int) < v)))
theorem Met2.zero (s t : Int) (Z : Nat) : Met2 s t Z 0 (-1) (-1) := .inl ⟨rfl, rfl, fun i hi => absurd hi (by omega)⟩
theorem Met2.pass {s t u v : Int} {Z x : Nat} (h : Met2 s t Z x u v) (hx : ¬ (s ≤ (Z : Int) + x ∧ (Z : Int) + x < t)) : Met2 s t Z (x + 1) u v := by
  rcases h with ⟨h1, h2, h3⟩ | ⟨h1, h2, h3, h4⟩
  · refine .inl ⟨h1, h2, fun i hi => ?_⟩
    by_cases e : i = x
    · subst e
      exact hx
    · exact h3 i (by omega)
  · refine .inr ⟨h1, h2, by omega, fun i hi => ?_⟩
    by_cases e : i = x
    · subst e
      exact ⟨fun k => absurd k hx, fun k => by omega⟩
    · exact h4 i (by omega)
theorem Met2.first {s t u v : Int} {Z x : Nat} (h : Met2 s t Z x u v) (hu : u < 0) (hx : s ≤ (Z : Int) + x ∧ (Z : Int) + x < t) : Met2 s t Z (x + 1) x ((x : Int) + 1) := by
  rcases h with ⟨h1, h2, h3⟩ | ⟨h1, _⟩
  · refine .inr ⟨by omega, by omega, by omega, fun i hi => ?_⟩
    by_cases e : i = x
    · subst e
      exact ⟨fun _ => ⟨by omega, by omega⟩, fun _ => hx⟩
    · exact ⟨fun k => absurd k (h3 i (by omega)), fun k => by omega⟩
  · omega
theorem Met2.more {s t u v : Int} {Z x : Nat} (h : Met2 s t Z x u v) (hu : 0 ≤ u) (hx : s ≤ (Z : Int) + x ∧ (Z : Int) + x < t) : Met2 s t Z (x + 1) u ((x : Int) + 1) := by
  rcases h with ⟨h1, _⟩ | ⟨h1, h2, h3, h4⟩
  · omega
  · obtain ⟨p, hp⟩ : ∃ p : Nat, u = p := ⟨u.toNat, by omega⟩
    have hpin := (h4 p (by omega)).2 ⟨by omega, by omega⟩
    refine .inr ⟨h1, by omega, by omega, fun i hi => ?_⟩
    by_cases e : i = x
    · subst e
      exact ⟨fun _ => ⟨by omega, by omega⟩, fun _ => hx⟩
    · have k4 := h4 i (by omega)
      constructor
      · intro k
        have := k4.1 k
        exact ⟨by omega, by omega⟩
      · intro k
        exact ⟨by omega, by omega⟩
end Go.Proofs.YtlhcehealjdbdaaDoor
/- Blanks, as the document says. -/
namespace Go.Proofs.YtlhcehealjdbdaaDoor
open Go.RowKit
set_option linter.unusedSimpArgs false
set_option linter.unusedVariables false
attribute [local go_sem] alloc_drewN setCell_drewN


def ERel (w : World) (lo g pc : Nat) (xs : List Glyph) (f b d l x m : Int) (q : Nat) (wr : World) : Prop :=
  PRow wr lo (.slice (some ⟨g, 0, none⟩) xs.length pc) (erasePk xs x m b q) ∧ Own wr w.heap.size 26 #[.int .u32 f, .int .u32 b, .int .u8 d, .int .u16 l] ∧ Below w.heap.size w wr
set_option maxRecDepth 10000 in
set_option maxHeartbeats 4000000 in
theorem ref_erase_any (a : Option Addr) (n c : Nat) (x m f b d l : Int) (xs : List Glyph) (w : World) (hl : Cells w a n xs) : Calls Tryd.prog 52 #[.slice a n c, .int .i64 x, .int .i64 m, .agg #[.int .u32 f, .int .u32 b, .int .u8 d, .int .u16 l]] w (GPost (eraseW xs x m f b) w) := by
  obtain rfl := hl.1
  have HL := Lib.hid hl
  clear hl
  obtain ⟨rb, hrb⟩ : ∃ rb, rowMay xs = rb := ⟨_, rfl⟩
  obtain ⟨pb, hpb⟩ : ∃ pb, penMay f b = pb := ⟨_, rfl⟩
  have HRB := Lib.hid hrb
  have HPB := Lib.hid hpb
  have HNO : Hid ((rb && pb) = false → eraseW xs x m f b = []) := fun h => by unfold eraseW; rw [hrb, hpb, h]; rfl
  clear hrb hpb
  have B0 : Hid (Below w.heap.size w (w.alloc (.cells #[.int .u32 f, .int .u32 b, .int .u8 d, .int .u16 l] 26))) := (Below.refl _ _).alloc (Nat.le_refl _) _
  have P0 : Hid (Own (w.alloc (.cells #[.int .u32 f, .int .u32 b, .int .u8 d, .int .u16 l] 26)) w.heap.size 26 #[.int .u32 f, .int .u32 b, .int .u8 d, .int .u16 l]) := Own.new w 26 _
  have hz0 : w.heap.size < (w.alloc (.cells #[.int .u32 f, .int .u32 b, .int .u8 d, .int .u16 l] 26)).heap.size := by simp
  go_enter Tryd.func52, Tryd.ntmps52
  go_wp2_with fail
  refine (RVal.as (ref_row_any a xs.length c xs _ (HL.out.below B0.out)) (congrArg Value.bool HRB.out)).mono ?_
  generalize w.alloc (.cells #[.int .u32 f, .int .u32 b, .int .u8 d, .int .u16 l] 26) = w0 at B0 P0 hz0 ⊢
  rintro e w1 ⟨rfl, b1⟩
  have B1 : Hid (Below w.heap.size w w1) := B0.out.trans (b1.mono B0.out.size)
  have P1 := Lib.hid (P0.out.below b1 hz0)
  have hz1 : w.heap.size < w1.heap.size := Nat.lt_of_lt_of_le hz0 b1.size
  clear b1
  have e0 := Own.cell P1.out 0
  have e1 := Own.cell P1.out 1
  have e2 := Own.cell P1.out 2
  have e3 := Own.cell P1.out 3
  simp only [List.getElem?_toArray, List.getElem?_cons_zero, List.getElem?_cons_succ] at e0 e1 e2 e3
  cases rb with
  | false =>
    have HF := Lib.hid (HNO.out rfl)
    go_wp2_with fail
    go_ret
    exact ⟨_, rfl, by rw [HF.out]; exact CRow.nil _ _, B1.out⟩
  | true =>
    go_wp2_with fail
    refine (RVal.as (ref_pen_any f b d l _) (congrArg Value.bool HPB.out)).mono ?_
    rintro e w2 ⟨rfl, b2⟩
    have B2 : Hid (Below w.heap.size w w2) := B1.out.trans (b2.mono B1.out.size)
    have P2 := Lib.hid (P1.out.below b2 hz1)
    have hz2 : w.heap.size < w2.heap.size := Nat.lt_of_lt_of_le hz1 b2.size
    clear b2 e0 e1 e2 e3
    cases pb with
    | false =>
      have HF := Lib.hid (HNO.out rfl)
      go_wp2_with fail
      go_ret
      exact ⟨_, rfl, by rw [HF.out]; exact CRow.nil _ _, B2.out⟩
    | true =>
      have hn8 := (row_iff.1 HRB.out).2.1
      have hn1 := (row_iff.1 HRB.out).1
      have HOK : Hid ((rowMay xs && penMay f b) = true) := by rw [HRB.out, HPB.out]; rfl
      clear HNO B0 P0 hz0 B1 P1 hz1
      have HF : Hid (eraseW xs x m f b = mendP (erasePk xs x m b xs.length)) := by
        unfold eraseW
        rw [HOK.out, if_pos rfl]
        rfl
      go_wp2_with fail
      refine (pieces_any _ xs.length c xs _ (HL.out.below B2.out) hn1 hn8).mono ?_
      rintro e w3 ⟨v3, rfl, r3, b3⟩
      obtain ⟨pa, pc, rfl⟩ := prow_form r3
      rw [pieces_len] at r3 ⊢
      obtain ⟨g, rfl⟩ := prow_addr r3 (by omega)
      have R3 : Hid (PRow w3 w2.heap.size (.slice (some ⟨g, 0, none⟩) xs.length pc) (piecesP xs)) := r3
      have B3 : Hid (Below w.heap.size w w3) := B2.out.trans (b3.mono B2.out.size)
      have P3 := Lib.hid (P2.out.below b3 hz2)
      have hz3 : w.heap.size < w3.heap.size := Nat.lt_of_lt_of_le hz2 b3.size
      have hbg : w2.heap.size ≤ g := (prow_at R3.out (k := 0) (by omega)).2.1
      have hgw : g < w3.heap.size := (prow_at R3.out (k := 0) (by omega)).2.2.2
      have hne : some w.heap.size ≠ some g := fun e => by injection e with e; omega
      have hpcn : xs.length ≤ pc := (prow_own R3.out).choose_spec.2.2
      clear r3 b3
      have HL0 : Hid (ERel w w2.heap.size g pc xs f b d l x m 0 w3) := ⟨by rw [erase_zero]; exact R3.out, P3.out, B3.out⟩
      clear R3 P3 B3
      go_wp2_with fail
      go_loopw [23] (fun v wr => ∃ q : Nat, q ≤ xs.length ∧ v = .int .i64 q ∧ Hid (ERel w w2.heap.size g pc xs f b d l x m q wr)) (fun v _ => xs.length - (intOf v).toNat)
      case atStart => exact ⟨0, by omega, rfl, HL0⟩
      case round =>
        obtain ⟨q, hq1, rfl, HR⟩ := hrel
        clear HL0
        by_cases hq : q < xs.length
        · have hi0 : (0 : Int) ≤ (q : Int) := by omega
          have hi1 : (q : Int) < (xs.length : Int) := by omega
          have HQ : Hid (q < xs.length) := hq
          cases ha : decide (x ≤ (q : Int)) with
          | false =>
            have HO : Hid (erasePk xs x m b (q + 1) = erasePk xs x m b q) := erase_out (fun k => of_decide_eq_false ha k.1)
            go_wp2_with fail
            go_roundw
            case rel => exact ⟨q + 1, HQ.out, by go_num, by unfold ERel; rw [HO.out]; exact HR.out⟩
            case measure => have := HQ.out; simp [intOf]; omega
          | true =>
            cases hb : decide ((q : Int) < m) with
            | false =>
              have HO : Hid (erasePk xs x m b (q + 1) = erasePk xs x m b q) := erase_out (fun k => of_decide_eq_false hb k.2)
              go_wp2_with fail
              go_roundw
              case rel => exact ⟨q + 1, HQ.out, by go_num, by unfold ERel; rw [HO.out]; exact HR.out⟩
              case measure => have := HQ.out; simp [intOf]; omega
            | true =>
              have HI : Hid ((erasePk xs x m b q).set q ⟨blank b, -10⟩ = erasePk xs x m b (q + 1)) := erase_in hq ⟨of_decide_eq_true ha, of_decide_eq_true hb⟩
              have e0 := Own.cell HR.out.2.1 0
              have e1 := Own.cell HR.out.2.1 1
              have e2 := Own.cell HR.out.2.1 2
              have e3 := Own.cell HR.out.2.1 3
              simp only [List.getElem?_toArray, List.getElem?_cons_zero, List.getElem?_cons_succ] at e0 e1 e2 e3
              go_wp2_with fail
              refine (ref_blank_any f b d l _).mono ?_
              rintro e wx ⟨rfl, bx⟩
              have HX : Hid (ERel w w2.heap.size g pc xs f b d l x m q wx) := ⟨HR.out.1.below bx, HR.out.2.1.below bx HR.out.2.1.lt, HR.out.2.2.trans (bx.mono HR.out.2.2.size)⟩
              clear bx HR e0 e1 e2 e3
              go_wp2_with (first
                | (refine pstore_list rfl _ _ rfl (d := ⟨blank b, -10⟩) rfl rfl HX.out.1 hq ?_; intro wy r5 g5; have HY' : Hid (ERel w w2.heap.size g pc xs f b d l x m (q + 1) wy) := ⟨by rw [← HI.out]; exact r5, HX.out.2.1.grown g5 hne, below_grown HX.out.2.2 g5 (by omega) HX.out.2.2.size⟩; clear r5 g5)
                | go_in)
              go_roundw
              case rel => exact ⟨q + 1, HQ.out, by go_num, HY'⟩
              case measure => have := HQ.out; simp [intOf]; omega
        · obtain rfl : q = xs.length := by omega
          clear hq
          go_wp2_with fail
          refine (mend_any g xs.length pc _ (erasePk xs x m b xs.length) _ HR.out.1 (by omega) hn8 (bound_erase hn8)).mono ?_
          rintro e w8 ⟨v8, rfl, r8, b8⟩
          have R8 := Lib.hid r8
          have B8 := Lib.hid b8
          clear r8 b8
          go_wp2_with fail
          go_ret
          exact ⟨_, rfl, by rw [HF.out]; exact R8.out.up HR.out.2.2.size, HR.out.2.2.trans (B8.out.mono HR.out.2.2.size)⟩
end Go.Proofs.YtlhcehealjdbdaaDoor
/- A grid of which a stretch was erased: the document's. -/
namespace Go.Proofs.YtlhcehealjdbdaaDoor
open Go.RowKit
set_option linter.unusedSimpArgs false
set_option linter.unusedVariables false
attribute [local go_sem] alloc_drewN setCell_drewN


def DcRel (w : World) (base gl lc C R : Nat) (a : Option Addr) (n cp : Nat) (f b d l : Int) (L : List (List Glyph)) (wr : World) : Prop :=
  RowsAt wr base (.slice (some ⟨gl, 0, none⟩) R lc) L ∧ Own wr w.heap.size 49 #[.int .i64 C, .int .i64 R, .slice a n cp] ∧ Own wr (w.heap.size + 1) 26 #[.int .u32 f, .int .u32 b, .int .u8 d, .int .u16 l] ∧ Own wr (w.heap.size + 2) 49 #[.int .i64 0, .int .i64 0, .slice none 0 0] ∧ Below w.heap.size w wr
theorem DcRel.below {w w1 w2 : World} {base gl lc C R n cp : Nat} {a : Option Addr} {f b d l : Int} {L : List (List Glyph)} (h : DcRel w base gl lc C R a n cp f b d l L w1) (k : Below w1.heap.size w1 w2) : DcRel w base gl lc C R a n cp f b d l L w2 :=
  ⟨h.1.below k, h.2.1.below k h.2.1.lt, h.2.2.1.below k h.2.2.1.lt, h.2.2.2.1.below k h.2.2.2.1.lt, h.2.2.2.2.trans (k.mono h.2.2.2.2.size)⟩
theorem rows_lt {w : World} {b g n c : Nat} {L : List (List Glyph)} (h : RowsAt w b (.slice (some ⟨g, 0, none⟩) n c) L) (h0 : 0 < n) : b ≤ g ∧ g < w.heap.size := by
  obtain ⟨g', e, _, h1, h2, _⟩ := rows_addr h h0
  injection e with e
  injection e with e
  subst e
  exact ⟨h1, h2⟩
set_option maxRecDepth 10000 in
set_option maxHeartbeats 4000000 in
theorem ref_clear_any (c r s t f b d l : Int) (a : Option Addr) (n cp : Nat) (xs : List Glyph) (w : World) (hl : Cells w a n xs) (hcp : n ≤ cp) :
    Calls Tryd.prog 65 #[.agg #[.int .i64 c, .int .i64 r, .slice a n cp], .int .i64 s, .int .i64 t, .agg #[.int .u32 f, .int .u32 b, .int .u8 d, .int .u16 l]] w (GG (okI c r xs f b c) (okI c r xs f b r) (clearP c r xs s t f b) w) := by
  obtain rfl := hl.1
  have HL := Lib.hid hl
  clear hl
  have B0 : Hid (Below w.heap.size w (((w.alloc (.cells #[.int .i64 c, .int .i64 r, .slice a xs.length cp] 49)).alloc (.cells #[.int .u32 f, .int .u32 b, .int .u8 d, .int .u16 l] 26)).alloc (.cells #[.int .i64 0, .int .i64 0, .slice none 0 0] 49))) := (((Below.refl _ _).alloc (Nat.le_refl _) _).alloc (by simp) _).alloc (by simp; omega) _
  have G0 : Hid (Own (((w.alloc (.cells #[.int .i64 c, .int .i64 r, .slice a xs.length cp] 49)).alloc (.cells #[.int .u32 f, .int .u32 b, .int .u8 d, .int .u16 l] 26)).alloc (.cells #[.int .i64 0, .int .i64 0, .slice none 0 0] 49)) w.heap.size 49 #[.int .i64 c, .int .i64 r, .slice a xs.length cp]) := ((Own.new w 49 _).alloc _).alloc _
  have P0' : Own (((w.alloc (.cells #[.int .i64 c, .int .i64 r, .slice a xs.length cp] 49)).alloc (.cells #[.int .u32 f, .int .u32 b, .int .u8 d, .int .u16 l] 26)).alloc (.cells #[.int .i64 0, .int .i64 0, .slice none 0 0] 49)) (w.heap.size + 1) 26 #[.int .u32 f, .int .u32 b, .int .u8 d, .int .u16 l] := by
    have h := (Own.new (w.alloc (.cells #[.int .i64 c, .int .i64 r, .slice a xs.length cp] 49)) 26 #[.int .u32 f, .int .u32 b, .int .u8 d, .int .u16 l]).alloc (.cells #[.int .i64 0, .int .i64 0, .slice none 0 0] 49)
    simpa using h
  have A0' : Own (((w.alloc (.cells #[.int .i64 c, .int .i64 r, .slice a xs.length cp] 49)).alloc (.cells #[.int .u32 f, .int .u32 b, .int .u8 d, .int .u16 l] 26)).alloc (.cells #[.int .i64 0, .int .i64 0, .slice none 0 0] 49)) (w.heap.size + 2) 49 #[.int .i64 0, .int .i64 0, .slice none 0 0] := by
    have h := Own.new ((w.alloc (.cells #[.int .i64 c, .int .i64 r, .slice a xs.length cp] 49)).alloc (.cells #[.int .u32 f, .int .u32 b, .int .u8 d, .int .u16 l] 26)) 49 #[.int .i64 0, .int .i64 0, .slice none 0 0]
    simpa using h
  have P0 := Lib.hid P0'
  have A0 := Lib.hid A0'
  have hz0 : w.heap.size + 3 ≤ (((w.alloc (.cells #[.int .i64 c, .int .i64 r, .slice a xs.length cp] 49)).alloc (.cells #[.int .u32 f, .int .u32 b, .int .u8 d, .int .u16 l] 26)).alloc (.cells #[.int .i64 0, .int .i64 0, .slice none 0 0] 49)).heap.size := by simp
  clear P0' A0'
  have g0 := Own.cell G0.out 0
  have g1 := Own.cell G0.out 1
  have g2 := Own.cell G0.out 2
  simp only [List.getElem?_toArray, List.getElem?_cons_zero, List.getElem?_cons_succ] at g0 g1 g2
  go_enter Tryd.func65, Tryd.ntmps65
  go_wp2_with fail
  generalize ((w.alloc (.cells #[.int .i64 c, .int .i64 r, .slice a xs.length cp] 49)).alloc (.cells #[.int .u32 f, .int .u32 b, .int .u8 d, .int .u16 l] 26)).alloc (.cells #[.int .i64 0, .int .i64 0, .slice none 0 0] 49) = w0 at B0 G0 P0 A0 hz0 g0 g1 g2 ⊢
  refine (ref_rows_any c r a xs.length cp xs w0 (HL.out.below B0.out) hcp).mono ?_
  intro e w1 hp
  unfold RowsPost at hp
  obtain ⟨mb, hmb⟩ : ∃ mb, gridMay c r xs = mb := ⟨_, rfl⟩
  cases mb with
  | false =>
    rw [if_neg (by rw [hmb]; decide)] at hp
    obtain ⟨rfl, b1⟩ := hp
    have B1 : Hid (Below w.heap.size w w1) := B0.out.trans (b1.mono B0.out.size)
    have G1 := Lib.hid (G0.out.below b1 (by omega))
    have P1 := Lib.hid (P0.out.below b1 (by omega))
    have A1 := Lib.hid (A0.out.below b1 (by omega))
    have hz1 : w.heap.size + 3 ≤ w1.heap.size := Nat.le_trans hz0 b1.size
    have HF : Hid (okI c r xs f b c = 0 ∧ okI c r xs f b r = 0 ∧ clearP c r xs s t f b = []) := by unfold okI clearP; rw [hmb, Bool.false_and]; exact ⟨rfl, rfl, rfl⟩
    clear b1 g0 g1 g2 hmb
    have hA := A1.out
    go_wp2_with (first
      | (refine gvstore_list rfl _ _ rfl (c := 0) (r := 0) (sa := none) (sn := 0) (sc := 0) rfl rfl hA ?_; intro w2 o2 k2; have O2 := Lib.hid o2; have B2 : Hid (Below w.heap.size w w2) := below_grown B1.out k2 (by omega) B1.out.size; clear o2 k2 hA)
      | go_in)
    have g0 := Own.cell O2.out 0
    have g1 := Own.cell O2.out 1
    have g2 := Own.cell O2.out 2
    simp only [List.getElem?_toArray, List.getElem?_cons_zero, List.getElem?_cons_succ] at g0 g1 g2
    (try simp only [Exit.inBlock, Exit.then])
    refine bodyPost_ret (v := .agg #[.int .i64 0, .int .i64 0, .slice none 0 0]) (by simp [results, Tryd.results65, go_sem, g0, g1, g2]) rfl ?_
    obtain ⟨h1, h2, h3⟩ := HF.out
    rw [h1, h2, h3]
    exact ⟨_, rfl, CRow.nil _ _, B2.out⟩
  | true =>
    rw [if_pos hmb] at hp
    obtain ⟨v1, rfl, r1, b1⟩ := hp
    have B1 : Hid (Below w.heap.size w w1) := B0.out.trans (b1.mono B0.out.size)
    have G1 := Lib.hid (G0.out.below b1 (by omega))
    have P1 := Lib.hid (P0.out.below b1 (by omega))
    have A1 := Lib.hid (A0.out.below b1 (by omega))
    have hz1 : w.heap.size + 3 ≤ w1.heap.size := Nat.le_trans hz0 b1.size
    obtain ⟨pb, hpb⟩ : ∃ pb, penMay f b = pb := ⟨_, rfl⟩
    have HPB := Lib.hid hpb
    have HMB := Lib.hid hmb
    obtain ⟨C, R, rfl, rfl, hgo⟩ := gmay_iff.1 hmb
    have HGO := Lib.hid hgo
    obtain ⟨o1, o2, o3, o4, o5, o6⟩ := hgo
    rw [Int.toNat_natCast, Int.toNat_natCast] at r1
    obtain ⟨la0, lc, rfl⟩ := rows_form r1
    rw [rowsL_len] at r1 ⊢
    obtain ⟨gl, rfl, _, hglo, hgl, _⟩ := rows_addr r1 (by omega)
    have Lr1 := Lib.hid r1
    have HO5 := Lib.hid o5
    have hbnd := mul_bound o2 o4
    rw [← o5] at hbnd
    clear b1 r1 hmb hpb g0 g1 g2 o5 o6
    have e0 := Own.cell P1.out 0
    have e1 := Own.cell P1.out 1
    have e2 := Own.cell P1.out 2
    have e3 := Own.cell P1.out 3
    simp only [List.getElem?_toArray, List.getElem?_cons_zero, List.getElem?_cons_succ] at e0 e1 e2 e3
    go_wp2_with fail
    refine (RVal.as (ref_pen_any f b d l _) (congrArg Value.bool HPB.out)).mono ?_
    rintro e w2 ⟨rfl, b2⟩
    have B2 : Hid (Below w.heap.size w w2) := B1.out.trans (b2.mono B1.out.size)
    have G2 := Lib.hid (G1.out.below b2 (by omega))
    have P2 := Lib.hid (P1.out.below b2 (by omega))
    have A2 := Lib.hid (A1.out.below b2 (by omega))
    have hz2 : w.heap.size + 3 ≤ w2.heap.size := Nat.le_trans hz1 b2.size
    have L2 : Hid (DcRel w w0.heap.size gl lc C R a xs.length cp f b d l (rowsL C R xs) w2) := ⟨Lr1.out.below b2, G2.out, P2.out, A2.out, B2.out⟩
    clear b2 e0 e1 e2 e3
    cases pb with
    | false =>
      have HF : Hid (okI C R xs f b C = 0 ∧ okI C R xs f b R = 0 ∧ clearP C R xs s t f b = []) := by unfold okI clearP; rw [HPB.out, Bool.and_false]; exact ⟨rfl, rfl, rfl⟩
      have hA := A2.out
      go_wp2_with (first
        | (refine gvstore_list rfl _ _ rfl (c := 0) (r := 0) (sa := none) (sn := 0) (sc := 0) rfl rfl hA ?_; intro w3 o3 k3; have O3 := Lib.hid o3; have B3 : Hid (Below w.heap.size w w3) := below_grown B2.out k3 (by omega) B2.out.size; clear o3 k3 hA)
        | go_in)
      have g0 := Own.cell O3.out 0
      have g1 := Own.cell O3.out 1
      have g2 := Own.cell O3.out 2
      simp only [List.getElem?_toArray, List.getElem?_cons_zero, List.getElem?_cons_succ] at g0 g1 g2
      (try simp only [Exit.inBlock, Exit.then])
      refine bodyPost_ret (v := .agg #[.int .i64 0, .int .i64 0, .slice none 0 0]) (by simp [results, Tryd.results65, go_sem, g0, g1, g2]) rfl ?_
      obtain ⟨h1, h2, h3⟩ := HF.out
      rw [h1, h2, h3]
      exact ⟨_, rfl, CRow.nil _ _, B3.out⟩
    | true =>
      have hok : (gridMay C R xs && penMay f b) = true := by rw [HMB.out, HPB.out]; rfl
      have HOI : Hid (okI C R xs f b C = C ∧ okI C R xs f b R = R) := by unfold okI; rw [hok]; exact ⟨rfl, rfl⟩
      obtain ⟨S, hS⟩ : ∃ S, S = clF C xs (max 0 s) (min t xs.length) f b := ⟨_, rfl⟩
      have HS := Lib.hid hS
      have hcp0 : clearP C R xs s t f b = S R := by unfold clearP; rw [hok, if_pos rfl, Int.toNat_natCast, Int.toNat_natCast, hS]
      have HCP := Lib.hid hcp0
      have HSG : Hid (∀ k, k ≤ R → GridOk C R (S k)) := fun k hk => by rw [hS]; exact clF_ok HGO.out HPB.out k hk
      have HL0 : Hid (DcRel w w0.heap.size gl lc C R a xs.length cp f b d l (rowsL C R (S 0)) w2) := by rw [hS]; exact L2.out
      have HSTEP : Hid (∀ (q : Nat) (u v : Int), q < R → (∀ i : Nat, i < C → ((s ≤ (q : Int) * C + i ∧ (q : Int) * C + i < t) ↔ (u ≤ i ∧ (i : Int) < v))) → rowsL C R (S (q + 1)) = (rowsL C R (S q)).set q (eraseW (rowOf C q (S q)) u v f b)) := fun q u v hq h => by rw [hS]; exact clF_step HGO.out HPB.out hq h
      have HSTAY : Hid (∀ (q : Nat), q < R → (∀ i : Nat, i < C → ¬ (s ≤ (q : Int) * C + i ∧ (q : Int) * C + i < t)) → rowsL C R (S (q + 1)) = rowsL C R (S q)) := fun q hq h => by rw [hS]; exact clF_stay HGO.out HPB.out hq h
      clear hok hcp0 hS L2 G2 P2 A2 B2
      go_wp2_with fail
      go_loopw [31] (fun v wr => ∃ q : Nat, q ≤ R ∧ v = .int .i64 q ∧ Hid (DcRel w w0.heap.size gl lc C R a xs.length cp f b d l (rowsL C R (S q)) wr)) (fun v _ => R - (intOf v).toNat)
      case atStart => exact ⟨0, by omega, rfl, HL0⟩
      case round =>
        obtain ⟨q, hq1, rfl, HR⟩ := hrel
        rename World => wq
        clear HL0
        by_cases hqR : q < R
        · have hdq : decide (q < R) = true := decide_eq_true hqR
          have HQ : Hid (q < R) := hqR
          have hmr := mul_row (c := C) hqR
          have hst := HSTEP.out q
          have hsy := HSTAY.out q
          obtain ⟨Z, hZ⟩ : ∃ Z, q * C = Z := ⟨_, rfl⟩
          have k1 : (q : Int) * (C : Int) = (Z : Int) := by rw [← hZ]; exact (Int.natCast_mul q C).symm
          rw [k1] at hst hsy
          rw [hZ, ← HO5.out] at hmr
          have HST := Lib.hid hst
          have HSY := Lib.hid hsy
          have hrl0 := row_len (HSG.out q hq1).2.2.2.2.1 hqR
          have HRL := Lib.hid hrl0
          have hZb : Z + C ≤ 1920 := by omega
          have hq24 : q < 24 := by omega
          obtain ⟨la', lb, hcw, hrw, _⟩ := rows_at HR.out.1 hqR
          rw [rowsL_at hqR, HRL.out] at hcw hrw
          have hlc := cells_of hrw
          obtain ⟨_, _, hla, _, _⟩ := hlc.2.2 (by omega)
          obtain ⟨la, hla2⟩ : ∃ la, la' = some la := ⟨_, hla⟩
          subst hla2
          have LR0 := Lib.hid hlc
          have HCW := Lib.hid hcw
          have hqi0 : (0 : Int) ≤ (q : Int) := by omega
          have hqi1 : (q : Int) < (R : Int) := by omega
          clear hZ hst hsy hrl0 hrw hlc hla hmr
          go_wp2_with fail
          clear hcw
          go_loopw [12, 13, 39] (fun a1 a2 a3 wx => ∃ (x : Nat) (u v : Int), x ≤ C ∧ a1 = .int .i64 u ∧ a2 = .int .i64 v ∧ a3 = .int .i64 x ∧ Hid (Met2 s t Z x u v) ∧ wx = wq) (fun _ _ a3 _ => C - (intOf a3).toNat)
          case atStart => exact ⟨0, -1, -1, by omega, rfl, rfl, rfl, Met2.zero s t Z, rfl⟩
          case round =>
            obtain ⟨x, u, v, hx1, rfl, rfl, rfl, HM, rfl⟩ := hrel
            rename World => wq
            by_cases hx : x < C
            · have hdx : decide (x < C) = true := decide_eq_true hx
              have HX : Hid (x < C) := hx
              have hx80 : x < 80 := by omega
              have g0 := Own.cell HR.out.2.1 0
              have g1 := Own.cell HR.out.2.1 1
              have g2 := Own.cell HR.out.2.1 2
              simp only [List.getElem?_toArray, List.getElem?_cons_zero, List.getElem?_cons_succ] at g0 g1 g2
              cases c1 : decide (s ≤ (Z : Int) + (x : Int)) with
              | false =>
                have HM2 : Hid (Met2 s t Z (x + 1) u v) := HM.out.pass (fun k => of_decide_eq_false c1 k.1)
                go_wp2_with fail
                go_roundw
                case rel => exact ⟨x + 1, u, v, HX.out, rfl, rfl, by go_num, HM2, trivial⟩
                case measure => have := HX.out; simp [intOf]; omega
              | true =>
              cases c2 : decide ((Z : Int) + (x : Int) < t) with
              | false =>
                have HM2 : Hid (Met2 s t Z (x + 1) u v) := HM.out.pass (fun k => of_decide_eq_false c2 k.2)
                go_wp2_with fail
                go_roundw
                case rel => exact ⟨x + 1, u, v, HX.out, rfl, rfl, by go_num, HM2, trivial⟩
                case measure => have := HX.out; simp [intOf]; omega
              | true =>
              cases c3 : decide (u < 0) with
              | true =>
                have HM2 : Hid (Met2 s t Z (x + 1) x ((x : Int) + 1)) := HM.out.first (of_decide_eq_true c3) ⟨of_decide_eq_true c1, of_decide_eq_true c2⟩
                go_wp2_with fail
                go_roundw
                case rel => exact ⟨x + 1, x, (x : Int) + 1, HX.out, rfl, rfl, by go_num, HM2, trivial⟩
                case measure => have := HX.out; simp [intOf]; omega
              | false =>
                have HM2 : Hid (Met2 s t Z (x + 1) u ((x : Int) + 1)) := HM.out.more (by have := of_decide_eq_false c3; omega) ⟨of_decide_eq_true c1, of_decide_eq_true c2⟩
                go_wp2_with fail
                go_roundw
                case rel => exact ⟨x + 1, u, (x : Int) + 1, HX.out, rfl, rfl, by go_num, HM2, trivial⟩
                case measure => have := HX.out; simp [intOf]; omega
            · obtain rfl : C = x := by omega
              have hdx : decide (C < C) = false := decide_eq_false hx
              clear hx
              have hcw := HCW.out
              cases c4 : decide (0 ≤ u) with
              | false =>
                have LN2 : Hid (DcRel w w0.heap.size gl lc C R a xs.length cp f b d l (rowsL C R (S (q + 1))) wq) := by
                  rcases HM.out with ⟨_, _, h3⟩ | ⟨h1, _⟩
                  · rw [HSY.out HQ.out h3]
                    exact HR.out
                  · exact absurd h1 (of_decide_eq_false c4)
                clear hcw
                go_wp2_with fail
                go_roundw
                case rel => exact ⟨q + 1, HQ.out, by go_num, LN2⟩
                case measure => have := HQ.out; simp [intOf]; omega
              | true =>
                have hsx : rowsL C R (S (q + 1)) = (rowsL C R (S q)).set q (eraseW (rowOf C q (S q)) u v f b) := by
                  rcases HM.out with ⟨h1, _⟩ | ⟨_, _, _, h4⟩
                  · have := of_decide_eq_true c4
                    omega
                  · exact HST.out u v HQ.out h4
                have HSX := Lib.hid hsx
                have L2' : Hid (DcRel w w0.heap.size gl lc C R a xs.length cp f b d l (rowsL C R (S q)) wq.drew) := ⟨HR.out.1, HR.out.2.1, HR.out.2.2.1, HR.out.2.2.2.1, below_drewN HR.out.2.2.2.2 1⟩
                have S2 : Hid (wq.drew.cell? ⟨gl, q, none⟩ = some (.slice (some la) C lb) ∧ (wq.drew.cell? ⟨w.heap.size + 1, 0, none⟩ = some (.int .u32 f) ∧ wq.drew.cell? ⟨w.heap.size + 1, 1, none⟩ = some (.int .u32 b) ∧ wq.drew.cell? ⟨w.heap.size + 1, 2, none⟩ = some (.int .u8 d) ∧ wq.drew.cell? ⟨w.heap.size + 1, 3, none⟩ = some (.int .u16 l))) := ⟨hcw, ⟨Own.cell L2'.out.2.2.1 0, Own.cell L2'.out.2.2.1 1, Own.cell L2'.out.2.2.1 2, Own.cell L2'.out.2.2.1 3⟩⟩
                have LR : Hid (Cells wq.drew (some la) C (rowOf C q (S q))) := LR0.out
                have hgl2 : gl < wq.drew.heap.size := (rows_lt HR.out.1 (by omega)).2
                clear hcw hsx
                go_wp2_with fail
                refine wp_region_bits_at (S := fun w' => w'.cell? ⟨gl, q, none⟩ = some (.slice (some la) C lb) ∧ (w'.cell? ⟨w.heap.size + 1, 0, none⟩ = some (.int .u32 f) ∧ w'.cell? ⟨w.heap.size + 1, 1, none⟩ = some (.int .u32 b) ∧ w'.cell? ⟨w.heap.size + 1, 2, none⟩ = some (.int .u8 d) ∧ w'.cell? ⟨w.heap.size + 1, 3, none⟩ = some (.int .u16 l))) [(0, true), (1, true), (2, true), (3, true), (4, true), (5, true), (6, true), (7, true), (8, true), (9, false), (10, true), (11, false)] [11] (by kernel_rfl) (by kernel_rfl) (fun c a d v w h => by cases d <;> exact h) S2.out ?_
                simp only [bits_, bitOf, List.getElem?_cons_zero, List.getElem?_cons_succ, List.contains_nil, List.contains_cons, Nat.reduceBEq, Bool.or_false]
                repeat (first | (refine bits_take (v := ?_) (by rfl) ?_ ?_; rotate_left; (· intro w' hS; obtain ⟨s0, s3, s4, s5, s6⟩ := hS; go_simp; (try (go_ints; try go_simp)); with_reducible rfl); (try simp only [Act.put, List.setIfInBounds_toArray, List.set_cons_zero, List.set_cons_succ])) | (refine bits_skip (by rfl) ?_; (try simp only [Act.put, List.setIfInBounds_toArray, List.set_cons_zero, List.set_cons_succ])))
                refine bits_eff (by rfl) (fun K hK => ?_)
                go_simp
                (try go_ints)
                refine (ref_erase_any (some la) C lb u v f b d l (rowOf C q (S q)) wq.drew LR.out).mono ?_
                rintro e w3 ⟨v3, rfl, r3, b3⟩
                obtain ⟨ta, tc, rfl, tl⟩ := r3.cells
                have L3 := Lib.hid (L2'.out.below b3)
                have RX3 := Lib.hid (r3.up (Nat.zero_le _))
                have S3 : Hid (w3.cell? ⟨gl, q, none⟩ = some (.slice (some la) C lb) ∧ (w3.cell? ⟨w.heap.size + 1, 0, none⟩ = some (.int .u32 f) ∧ w3.cell? ⟨w.heap.size + 1, 1, none⟩ = some (.int .u32 b) ∧ w3.cell? ⟨w.heap.size + 1, 2, none⟩ = some (.int .u8 d) ∧ w3.cell? ⟨w.heap.size + 1, 3, none⟩ = some (.int .u16 l))) := ⟨(b3.cell (p := ⟨gl, q, none⟩) hgl2).trans S2.out.1, ⟨Own.cell L3.out.2.2.1 0, Own.cell L3.out.2.2.1 1, Own.cell L3.out.2.2.1 2, Own.cell L3.out.2.2.1 3⟩⟩
                clear b3 r3 tl
                refine hK _ _ ?_ ?_
                · exact S3.out
                clear hK K
                (try simp only [Act.put, List.setIfInBounds_toArray, List.set_cons_zero, List.set_cons_succ])
                repeat (first | (refine bits_take (v := ?_) (by rfl) ?_ ?_; rotate_left; (· intro w' hS; obtain ⟨s0, s3, s4, s5, s6⟩ := hS; go_simp; (try (go_ints; try go_simp)); with_reducible rfl); (try simp only [Act.put, List.setIfInBounds_toArray, List.set_cons_zero, List.set_cons_succ])) | (refine bits_skip (by rfl) ?_; (try simp only [Act.put, List.setIfInBounds_toArray, List.set_cons_zero, List.set_cons_succ])))
                refine bits_tail (by rfl) (fun K hK => ?_)
                refine rset_op _ _ rfl (i := q) rfl rfl L3.out.1 hqR RX3.out fun w4 r4 k4 => ?_
                refine hK _ _ ?_
                clear hK K
                (try simp only [Act.put])
                repeat (first | (refine bits_take (v := ?_) (by rfl) ?_ ?_; rotate_left; (· intro w' hS; obtain ⟨s0, s3, s4, s5, s6⟩ := hS; go_simp; (try (go_ints; try go_simp)); with_reducible rfl); (try simp only [Act.put, List.setIfInBounds_toArray, List.set_cons_zero, List.set_cons_succ])) | (refine bits_skip (by rfl) ?_; (try simp only [Act.put, List.setIfInBounds_toArray, List.set_cons_zero, List.set_cons_succ])))
                refine bits_nil ?_
                have L4 : Hid (DcRel w w0.heap.size gl lc C R a xs.length cp f b d l (rowsL C R (S (q + 1))) w4) := ⟨by rw [HSX.out]; exact r4, L3.out.2.1.grown k4 (rw_own L3.out.1 L3.out.2.1 (by decide)), L3.out.2.2.1.grown k4 (rw_own L3.out.1 L3.out.2.2.1 (by decide)), L3.out.2.2.2.1.grown k4 (rw_own L3.out.1 L3.out.2.2.2.1 (by decide)), below_grown L3.out.2.2.2.2 k4 (by have := (rows_lt L3.out.1 (by omega)).1; omega) L3.out.2.2.2.2.size⟩
                clear r4 k4
                go_wp2_with fail
                go_roundw
                case rel => exact ⟨q + 1, HQ.out, by go_num, L4⟩
                case measure => have := HQ.out; simp [intOf]; omega
        · obtain rfl : R = q := by omega
          have hdq : decide (R < R) = false := decide_eq_false hqR
          clear hqR
          have HCL : Hid (∀ i, i < R → ((rowsL C R (S R)).getD i []).length = C) := fun i hi => by rw [rowsL_at hi]; exact row_len (HSG.out R (Nat.le_refl _)).2.2.2.2.1 hi
          have HFL := Lib.hid (rows_flat (HSG.out R (Nat.le_refl _)).2.2.2.2.1)
          go_wp2_with fail
          refine (of_any C R gl lc w0.heap.size (rowsL C R (S R)) _ HR.out.1 o3 o4 o1 o2 HCL.out).mono ?_
          rintro e w10 ⟨v10, rfl, r10, b10⟩
          rw [HFL.out] at r10
          obtain ⟨va, vc, rfl, _⟩ := r10.cells
          have RR10 := Lib.hid r10
          have B10 : Hid (Below w.heap.size w w10) := HR.out.2.2.2.2.trans (b10.mono HR.out.2.2.2.2.size)
          have A10 := Lib.hid (HR.out.2.2.2.1.below b10 HR.out.2.2.2.1.lt)
          have ha10 := HR.out.2.2.2.1.lt
          clear r10 b10
          have hA := A10.out
          go_wp2_with (first
            | (refine gvstore_list rfl _ _ rfl (c := C) (r := R) (sa := va) (sc := vc) rfl rfl hA ?_; intro w11 o11 k11; have O11 := Lib.hid o11; have B11 : Hid (Below w.heap.size w w11) := below_grown B10.out k11 (by omega) B10.out.size; have R11 := Lib.hid ((crow_other RR10.out k11 ha10).up HR.out.2.2.2.2.size); clear o11 k11 hA)
            | go_in)
          (try clear g0 g1 g2)
          have g0 := Own.cell O11.out 0
          have g1 := Own.cell O11.out 1
          have g2 := Own.cell O11.out 2
          simp only [List.getElem?_toArray, List.getElem?_cons_zero, List.getElem?_cons_succ] at g0 g1 g2
          (try simp only [Exit.inBlock, Exit.then])
          refine bodyPost_ret (v := .agg #[.int .i64 C, .int .i64 R, .slice va (S R).length vc]) (by simp [results, Tryd.results65, go_sem, g0, g1, g2]) rfl ?_
          rw [HOI.out.1, HOI.out.2, HCP.out]
          exact ⟨_, rfl, R11.out, B11.out⟩
end Go.Proofs.YtlhcehealjdbdaaDoor
