/- A grid of another size. -/
import Derived.Test.YtlhcehealjdbdaaDoorGScroll
import Derived.Test.YtlhcehealjdbdaaDoorGNew
import Derived.Deep.DeepCutAuto
namespace Go.Proofs.YtlhcehealjdbdaaDoor
open Go.RowKit
set_option linter.unusedSimpArgs false
set_option linter.unusedVariables false
attribute [local go_sem] alloc_drewN setCell_drewN


def fixAt (X : List Glyph) (i : Nat) : List Glyph := if (at_ X i).w = 1 then X.set i (blank (at_ X i).b) else X
def partP (X : List Glyph) (d : Nat) (l : List Glyph) (m : Nat) : List Glyph := X.take d ++ l.take m ++ X.drop (d + m)
/-- Behind k rows. -/
def rzF (C C2 R2 : Nat) (xs : List Glyph) : Nat → List Glyph
  | 0 => List.replicate (C2 * R2) (blank 0)
  | k + 1 => fixAt (partP (rzF C C2 R2 xs k) (k * C2) (rowOf C k xs) (min C C2)) (k * C2 + min C C2 - 1)
noncomputable def resizeP (c r : Int) (xs : List Glyph) (c2 r2 : Int) : List Glyph := if (fitsB c2 r2 && gridMay c r xs) = true then rzF c.toNat c2.toNat r2.toNat xs (min r.toNat r2.toNat) else []
noncomputable def rzI (c r : Int) (xs : List Glyph) (c2 r2 v : Int) : Int := if (fitsB c2 r2 && gridMay c r xs) = true then v else 0
theorem fix_len (X : List Glyph) (i : Nat) : (fixAt X i).length = X.length := by unfold fixAt; split <;> simp
theorem part_len {X l : List Glyph} {d m : Nat} (h : d + m ≤ X.length) (hm : m ≤ l.length) : (partP X d l m).length = X.length := by
  unfold partP
  rw [List.length_append, List.length_append, List.length_take, List.length_take, List.length_drop]
  omega
theorem rzF_len {C C2 R R2 : Nat} {xs : List Glyph} (hl : xs.length = C * R) : ∀ k, k ≤ R → k ≤ R2 → (rzF C C2 R2 xs k).length = C2 * R2
  | 0, _, _ => List.length_replicate
  | k + 1, h1, h2 => by
    have ih := rzF_len (C2 := C2) (R2 := R2) hl k (by omega) (by omega)
    have hm := mul_row (c := C2) (show k < R2 by omega)
    have h3 : (rowOf C k xs).length = C := row_len (r := R) hl (show k < R by omega)
    have h4 : k * C2 + min C C2 ≤ (rzF C C2 R2 xs k).length := by rw [ih]; omega
    have h5 : min C C2 ≤ (rowOf C k xs).length := by rw [h3]; omega
    rw [rzF, fix_len, part_len h4 h5]
    exact ih
def RzRel (w : World) (base g hb vc C R C2 R2 : Nat) (sa : Option Addr) (sn cp n : Nat) (ys : List Glyph) (wr : World) : Prop :=
  CRow wr base (.slice (some ⟨g, 0, none⟩) n vc) ys ∧ Own wr hb 49 #[.int .i64 C2, .int .i64 R2, .slice (some ⟨g, 0, none⟩) n vc] ∧ Own wr w.heap.size 49 #[.int .i64 C, .int .i64 R, .slice sa sn cp] ∧ Own wr (w.heap.size + 1) 49 #[.int .i64 0, .int .i64 0, .slice none 0 0] ∧ Below w.heap.size w wr
section
variable {w w1 w2 : World} {base g hb vc C R C2 R2 : Nat} {sa : Option Addr} {sn cp n : Nat} {ys zs : List Glyph}
theorem RzRel.below (h : RzRel w base g hb vc C R C2 R2 sa sn cp n ys w1) (k : Below w1.heap.size w1 w2) : RzRel w base g hb vc C R C2 R2 sa sn cp n ys w2 :=
  ⟨h.1.below k, h.2.1.below k h.2.1.lt, h.2.2.1.below k h.2.2.1.lt, h.2.2.2.1.below k h.2.2.2.1.lt, h.2.2.2.2.trans (k.mono h.2.2.2.2.size)⟩
theorem RzRel.put (h : RzRel w base g hb vc C R C2 R2 sa sn cp n ys w1) (r : CRow w2 base (.slice (some ⟨g, 0, none⟩) n vc) zs) (k : w1.grownBy w2 (some g)) (h1 : w.heap.size + 2 ≤ g) (h2 : hb ≠ g) : RzRel w base g hb vc C R C2 R2 sa sn cp n zs w2 :=
  ⟨r, h.2.1.grown k (fun e => by injection e with e; omega), h.2.2.1.grown k (fun e => by injection e with e; omega), h.2.2.2.1.grown k (fun e => by injection e with e; omega), below_grown h.2.2.2.2 k (by omega) h.2.2.2.2.size⟩
end
set_option maxRecDepth 10000 in
set_option maxHeartbeats 4000000 in
theorem gresize_any (c r c2 r2 : Int) (a : Option Addr) (n cp : Nat) (xs : List Glyph) (w : World) (hl : Cells w a n xs) (hcp : n ≤ cp) (ht : Tabs w) :
    Calls Tryd.prog 39 #[.agg #[.int .i64 c, .int .i64 r, .slice a n cp], .int .i64 c2, .int .i64 r2] w (GG (rzI c r xs c2 r2 c2) (rzI c r xs c2 r2 r2) (resizeP c r xs c2 r2) w) := by
  obtain rfl := hl.1
  have HL := Lib.hid hl
  have HT := Lib.hid ht
  clear hl ht
  obtain ⟨fb, hfb⟩ : ∃ fb, fitsB c2 r2 = fb := ⟨_, rfl⟩
  obtain ⟨mb, hmb⟩ : ∃ mb, gridMay c r xs = mb := ⟨_, rfl⟩
  have HFB := Lib.hid hfb
  have HMB := Lib.hid hmb
  have B0 : Hid (Below w.heap.size w ((w.alloc (.cells #[.int .i64 c, .int .i64 r, .slice a xs.length cp] 49)).alloc (.cells #[.int .i64 0, .int .i64 0, .slice none 0 0] 49))) := ((Below.refl _ _).alloc (Nat.le_refl _) _).alloc (by simp) _
  have G0 : Hid (Own ((w.alloc (.cells #[.int .i64 c, .int .i64 r, .slice a xs.length cp] 49)).alloc (.cells #[.int .i64 0, .int .i64 0, .slice none 0 0] 49)) w.heap.size 49 #[.int .i64 c, .int .i64 r, .slice a xs.length cp]) := (Own.new w 49 _).alloc _
  have A0' : Own ((w.alloc (.cells #[.int .i64 c, .int .i64 r, .slice a xs.length cp] 49)).alloc (.cells #[.int .i64 0, .int .i64 0, .slice none 0 0] 49)) (w.heap.size + 1) 49 #[.int .i64 0, .int .i64 0, .slice none 0 0] := by
    have h := Own.new (w.alloc (.cells #[.int .i64 c, .int .i64 r, .slice a xs.length cp] 49)) 49 #[.int .i64 0, .int .i64 0, .slice none 0 0]
    simpa using h
  have A0 := Lib.hid A0'
  have hz0 : w.heap.size + 2 ≤ ((w.alloc (.cells #[.int .i64 c, .int .i64 r, .slice a xs.length cp] 49)).alloc (.cells #[.int .i64 0, .int .i64 0, .slice none 0 0] 49)).heap.size := by simp
  clear A0'
  go_enter Tryd.func39, Tryd.ntmps39
  go_wp2_with fail
  refine (new_any c2 r2 _).mono ?_
  generalize (w.alloc (.cells #[.int .i64 c, .int .i64 r, .slice a xs.length cp] 49)).alloc (.cells #[.int .i64 0, .int .i64 0, .slice none 0 0] 49) = w0 at B0 G0 A0 hz0 ⊢
  intro e w1 hp
  unfold NewPost at hp
  cases fb with
  | false =>
    rw [if_neg (by rw [hfb]; decide)] at hp
    obtain ⟨rfl, b1⟩ := hp
    have HF : Hid (rzI c r xs c2 r2 c2 = 0 ∧ rzI c r xs c2 r2 r2 = 0 ∧ resizeP c r xs c2 r2 = []) := by unfold rzI resizeP; rw [hfb]; exact ⟨rfl, rfl, rfl⟩
    have B1 : Hid (Below w.heap.size w w1) := B0.out.trans (b1.mono B0.out.size)
    have A1 := Lib.hid (A0.out.below b1 A0.out.lt)
    clear b1 hfb hmb
    go_upto_region 2 with fail
    have B2 : Hid (Below w.heap.size w (w1.alloc (.cells #[.int .i64 0, .int .i64 0, .slice none 0 0] 49))) := B1.out.alloc B1.out.size _
    have A2 := Lib.hid (A1.out.alloc (.cells #[.int .i64 0, .int .i64 0, .slice none 0 0] 49))
    generalize w1.alloc (.cells #[.int .i64 0, .int .i64 0, .slice none 0 0] 49) = w2 at B2 A2 ⊢
    have hA := A2.out
    go_wp2_with (first
      | (refine gvstore_list rfl _ _ rfl (c := 0) (r := 0) (sa := none) (sn := 0) (sc := 0) rfl rfl hA ?_; intro w3 o3 k3; have O3 := Lib.hid o3; have B3 : Hid (Below w.heap.size w w3) := below_grown B2.out k3 (by omega) B2.out.size; clear o3 k3 hA)
      | go_in)
    have g0 := Own.cell O3.out 0
    have g1 := Own.cell O3.out 1
    have g2 := Own.cell O3.out 2
    simp only [List.getElem?_toArray, List.getElem?_cons_zero, List.getElem?_cons_succ] at g0 g1 g2
    (try simp only [Exit.inBlock, Exit.then])
    refine bodyPost_ret (v := .agg #[.int .i64 0, .int .i64 0, .slice none 0 0]) (by simp [results, Tryd.results39, go_sem, g0, g1, g2]) rfl ?_
    obtain ⟨h1, h2, h3⟩ := HF.out
    rw [h1, h2, h3]
    exact ⟨_, rfl, CRow.nil _ _, B3.out⟩
  | true =>
    rw [if_pos hfb] at hp
    obtain ⟨v1, P2, rfl, hP2, r1, b1⟩ := hp
    obtain ⟨a1, a2, a3, a4⟩ := fits_iff.1 hfb
    obtain ⟨C2, rfl⟩ : ∃ C2 : Nat, c2 = C2 := ⟨c2.toNat, by omega⟩
    obtain ⟨R2, rfl⟩ : ∃ R2 : Nat, r2 = R2 := ⟨r2.toNat, by omega⟩
    have hP2' : P2 = C2 * R2 := by have := Int.natCast_mul C2 R2; omega
    have hpos2 : 0 < P2 := by rw [hP2']; exact Nat.mul_pos (by omega) (by omega)
    have hbn2 : P2 ≤ 1920 := by rw [hP2']; exact mul_bound (by omega) (by omega)
    obtain ⟨va, vc, rfl, _⟩ := r1.cells
    have hrl : (List.replicate P2 (blank 0)).length = P2 := List.length_replicate
    rw [hrl] at r1 ⊢
    obtain ⟨g, rfl⟩ := crow_addr r1 hpos2
    have hgb : w0.heap.size ≤ g := (crow_at r1 (k := 0) hpos2).2.1
    have hglt : g < w1.heap.size := (World.ownsRow.lt r1 g rfl).2
    have hvc := crow_cap r1 hpos2
    have R1 := Lib.hid r1
    have HP2 := Lib.hid hP2'
    have B1 : Hid (Below w.heap.size w w1) := B0.out.trans (b1.mono B0.out.size)
    have G1 := Lib.hid (G0.out.below b1 (by omega))
    have A1 := Lib.hid (A0.out.below b1 A0.out.lt)
    clear r1 b1 hrl hP2 hP2'
    go_upto_region 2 with fail
    have X2 : Hid (CRow (w1.alloc (.cells #[.int .i64 C2, .int .i64 R2, .slice (some ⟨g, 0, none⟩) P2 vc] 49)) w0.heap.size (.slice (some ⟨g, 0, none⟩) P2 vc) (List.replicate P2 (blank 0))) := R1.out.alloc _
    have H2 : Hid (Own (w1.alloc (.cells #[.int .i64 C2, .int .i64 R2, .slice (some ⟨g, 0, none⟩) P2 vc] 49)) w1.heap.size 49 #[.int .i64 C2, .int .i64 R2, .slice (some ⟨g, 0, none⟩) P2 vc]) := Own.new w1 49 _
    have B2 : Hid (Below w.heap.size w (w1.alloc (.cells #[.int .i64 C2, .int .i64 R2, .slice (some ⟨g, 0, none⟩) P2 vc] 49))) := B1.out.alloc B1.out.size _
    have G2 := Lib.hid (G1.out.alloc (.cells #[.int .i64 C2, .int .i64 R2, .slice (some ⟨g, 0, none⟩) P2 vc] 49))
    have A2 := Lib.hid (A1.out.alloc (.cells #[.int .i64 C2, .int .i64 R2, .slice (some ⟨g, 0, none⟩) P2 vc] 49))
    generalize w1.alloc (.cells #[.int .i64 C2, .int .i64 R2, .slice (some ⟨g, 0, none⟩) P2 vc] 49) = w2 at X2 H2 B2 G2 A2 ⊢
    have hhb : w1.heap.size ≠ g := by omega
    generalize w1.heap.size = hb at H2 hhb hglt ⊢
    clear R1 B1 G1 A1
    have g0 := Own.cell G2.out 0
    have g1 := Own.cell G2.out 1
    have g2 := Own.cell G2.out 2
    simp only [List.getElem?_toArray, List.getElem?_cons_zero, List.getElem?_cons_succ] at g0 g1 g2
    go_wp2_with fail
    refine (RVal.as (gmay_any c r a xs.length cp xs w2 (HL.out.below B2.out) hcp (HT.out.below B2.out)) (congrArg Value.bool HMB.out)).mono ?_
    rintro e w3 ⟨rfl, b3⟩
    have X3 := Lib.hid (X2.out.below b3)
    have H3 := Lib.hid (H2.out.below b3 H2.out.lt)
    have B3 : Hid (Below w.heap.size w w3) := B2.out.trans (b3.mono B2.out.size)
    have G3 := Lib.hid (G2.out.below b3 G2.out.lt)
    have A3 := Lib.hid (A2.out.below b3 A2.out.lt)
    clear b3 X2 H2 B2 G2 A2 g0 g1 g2
    cases mb with
    | false =>
      have HF : Hid (rzI c r xs C2 R2 C2 = 0 ∧ rzI c r xs C2 R2 R2 = 0 ∧ resizeP c r xs C2 R2 = []) := by unfold rzI resizeP; rw [hmb, Bool.and_false]; exact ⟨rfl, rfl, rfl⟩
      clear hfb hmb
      have hA := A3.out
      go_wp2_with (first
        | (refine gvstore_list rfl _ _ rfl (c := 0) (r := 0) (sa := none) (sn := 0) (sc := 0) rfl rfl hA ?_; intro w4 o4 k4; have O4 := Lib.hid o4; have B4 : Hid (Below w.heap.size w w4) := below_grown B3.out k4 (by omega) B3.out.size; clear o4 k4 hA)
        | go_in)
      have g0 := Own.cell O4.out 0
      have g1 := Own.cell O4.out 1
      have g2 := Own.cell O4.out 2
      simp only [List.getElem?_toArray, List.getElem?_cons_zero, List.getElem?_cons_succ] at g0 g1 g2
      (try simp only [Exit.inBlock, Exit.then])
      refine bodyPost_ret (v := .agg #[.int .i64 0, .int .i64 0, .slice none 0 0]) (by simp [results, Tryd.results39, go_sem, g0, g1, g2]) rfl ?_
      obtain ⟨h1, h2, h3⟩ := HF.out
      rw [h1, h2, h3]
      exact ⟨_, rfl, CRow.nil _ _, B4.out⟩
    | true =>
      obtain ⟨C, R, rfl, rfl, hgo⟩ := gmay_iff.1 hmb
      obtain ⟨o1, o2, o3, o4, o5, _⟩ := hgo
      have hok : (fitsB C2 R2 && gridMay C R xs) = true := by rw [hfb, hmb]; rfl
      have HOI : Hid (rzI C R xs C2 R2 C2 = C2 ∧ rzI C R xs C2 R2 R2 = R2) := by unfold rzI; rw [hok]; exact ⟨rfl, rfl⟩
      have hF0 : resizeP C R xs C2 R2 = rzF C C2 R2 xs (min R R2) := by
        unfold resizeP
        rw [hok, if_pos rfl]
        simp only [Int.toNat_natCast]
      have HF := Lib.hid hF0
      clear hF0
      have hpos : 0 < C * R := Nat.mul_pos (by omega) (by omega)
      have HO5 := Lib.hid o5
      obtain ⟨ga, goff, rfl, hga, _⟩ := HL.out.2.2 (by omega)
      have hbnd := mul_bound o2 o4
      rw [← o5] at hbnd
      obtain ⟨K, hK⟩ : ∃ K, min C C2 = K := ⟨_, rfl⟩
      obtain ⟨J, hJ⟩ : ∃ J, K = J + 1 := ⟨K - 1, by omega⟩
      obtain ⟨N, hN⟩ : ∃ N, min R R2 = N := ⟨_, rfl⟩
      have HK := Lib.hid hK
      have HJ := Lib.hid hJ
      have HN := Lib.hid hN
      have hKC : K ≤ C := by omega
      have hKC2 : K ≤ C2 := by omega
      have hK1 : 1 ≤ K := by omega
      have hNR : N ≤ R := by omega
      have hNR2 : N ≤ R2 := by omega
      have hkj : (K : Int) - 1 = (J : Int) := by omega
      have hC28 : C2 ≤ 80 := by omega
      have hC21 : 1 ≤ C2 := by omega
      have hR224 : R2 ≤ 24 := by omega
      obtain ⟨S, hS⟩ : ∃ S, S = rzF C C2 R2 xs := ⟨_, rfl⟩
      have HS := Lib.hid hS
      have HSN : Hid (∀ k, S (k + 1) = fixAt (partP (S k) (k * C2) (rowOf C k xs) K) (k * C2 + K - 1)) := fun k => by rw [hS, ← hK]; rfl
      have HSL : Hid (∀ k, k ≤ N → (S k).length = P2) := fun k hk => by rw [hS, HP2.out]; exact rzF_len o5 k (by omega) (by omega)
      have HL0 : Hid (RzRel w w0.heap.size g hb vc C R C2 R2 (some ⟨ga, goff, none⟩) xs.length cp P2 (S 0) w3) := ⟨by rw [hS, rzF, ← HP2.out]; exact X3.out, H3.out, G3.out, A3.out, B3.out⟩
      clear hS hN hJ hK hok hfb hmb o5 X3 H3 B3 G3 A3
      have g0 := Own.cell HL0.out.2.2.1 0
      have g1 := Own.cell HL0.out.2.2.1 1
      have g2 := Own.cell HL0.out.2.2.1 2
      simp only [List.getElem?_toArray, List.getElem?_cons_zero, List.getElem?_cons_succ] at g0 g1 g2
      go_upto_region 4 with fail
      go_cut [29, 30] (fun v u wc => v = .int .i64 N ∧ u = .int .i64 0 ∧ w3 = wc)
      case first =>
        have hN := HN.out
        go_wp2_with fail
        all_goals (go_meet; exact ⟨congrArg (Value.int .i64) (by omega), rfl, rfl⟩)
      case rest =>
        obtain ⟨rfl, rfl, rfl⟩ := hcut
        clear g0 g1 g2
        go_wp2_with fail
        go_loopw [30] (fun v wr => ∃ q : Nat, q ≤ N ∧ v = .int .i64 q ∧ Hid (RzRel w w0.heap.size g hb vc C R C2 R2 (some ⟨ga, goff, none⟩) xs.length cp P2 (S q) wr)) (fun v _ => N - (intOf v).toNat)
        case atStart => exact ⟨0, by omega, rfl, HL0⟩
        case round =>
          obtain ⟨q, hq1, rfl, HR⟩ := hrel
          clear HL0
          by_cases hq : q < N
          · have hdq : decide (q < N) = true := decide_eq_true hq
            have HQ : Hid (q < N) := hq
            have hqR : q < R := by omega
            have hqR2 : q < R2 := by omega
            have hmr := mul_row (c := C2) hqR2
            have hmf := mul_row (c := C) hqR
            obtain ⟨Z, hZ⟩ : ∃ Z, q * C2 = Z := ⟨_, rfl⟩
            have HZ := Lib.hid hZ
            have HGC := Lib.hid (fun wz => grow_any C2 q R2 g 0 P2 vc R2 wz hC21 hC28 hqR2 hR224 HP2.out hvc)
            have HGD := Lib.hid (fun wz => grow_any C q R ga goff xs.length cp R wz o1 o2 hqR o4 HO5.out hcp)
            rw [hZ] at hmr HGC
            have hZn : Z + C2 ≤ P2 := by rw [HP2.out]; exact hmr
            have HMF : Hid (q * C + C ≤ xs.length) := by rw [HO5.out]; exact hmf
            have HRL : Hid ((rowOf C q xs).length = C) := row_len HO5.out hqR
            have hsl := HSL.out q (by omega)
            have HSLQ := Lib.hid hsl
            clear hZ hmr hmf hsl
            have g0 := Own.cell HR.out.2.1 0
            have g1 := Own.cell HR.out.2.1 1
            have g2 := Own.cell HR.out.2.1 2
            simp only [List.getElem?_toArray, List.getElem?_cons_zero, List.getElem?_cons_succ] at g0 g1 g2
            go_wp2_with fail
            refine (HGC.out _).mono ?_
            rintro e w4 ⟨rfl, b4⟩
            have S4 : Hid (RzRel w w0.heap.size g hb vc C R C2 R2 (some ⟨ga, goff, none⟩) xs.length cp P2 (S q) w4) := HR.out.below b4
            clear b4 g0 g1 g2 HR
            rw [Nat.zero_add]
            have g0 := Own.cell S4.out.2.2.1 0
            have g1 := Own.cell S4.out.2.2.1 1
            have g2 := Own.cell S4.out.2.2.1 2
            simp only [List.getElem?_toArray, List.getElem?_cons_zero, List.getElem?_cons_succ] at g0 g1 g2
            go_wp2_with fail
            refine (HGD.out _).mono ?_
            rintro e w5 ⟨rfl, b5⟩
            have S5 : Hid (RzRel w w0.heap.size g hb vc C R C2 R2 (some ⟨ga, goff, none⟩) xs.length cp P2 (S q) w5) := S4.out.below b5
            have HP5 : Hid (Cells w5 (some ⟨ga, goff + q * C * 6, none⟩) C (rowOf C q xs)) := cells_part (HL.out.below S5.out.2.2.2.2) (s := q * C) (m := C) HMF.out
            clear b5 g0 g1 g2 S4
            obtain ⟨Y, hY⟩ : ∃ Y, partP (S q) Z (rowOf C q xs) K = Y := ⟨_, rfl⟩
            have HY := Lib.hid hY
            have HYL : Hid (Y.length = P2) := by rw [← hY, part_len (by rw [HSLQ.out]; omega) (by rw [HRL.out]; omega)]; exact HSLQ.out
            have HNX : Hid (S (q + 1) = fixAt Y (Z + J)) := by
              rw [HSN.out, HZ.out, hY, HJ.out]
              rfl
            have hZJ : Z + J < P2 := by have := HJ.out; omega
            have hJ0 : (0 : Int) ≤ (J : Int) := by omega
            have hJ1 : (J : Int) < (C2 : Int) := by have := HJ.out; omega
            clear hY
            go_upto_region 9 with (first
              | (refine gpart_list rfl _ _ rfl Z K rfl rfl S5.out.1 HP5.out (by show K = min C C2; exact HK.out.symm) (by omega) (fun _ => rfl) ?_; intro w6 r6 k6; have S6 : Hid (RzRel w w0.heap.size g hb vc C R C2 R2 (some ⟨ga, goff, none⟩) xs.length cp P2 Y w6) := S5.out.put (by rw [← HY.out]; exact r6) k6 (by omega) hhb; clear r6 k6)
              | go_in)
            (try simp only [Act.put])
            obtain ⟨z, hz⟩ : ∃ z, at_ Y (Z + J) = z := ⟨_, rfl⟩
            have HZZ := Lib.hid hz
            have hga2 := (crow_at S6.out.1 hZJ).1
            rw [show Y.getD (Z + J) g0 = z from hz, Nat.add_mul] at hga2
            obtain ⟨e0, e1, e2, e3, e4, e5⟩ := hga2
            clear hz S5 HP5
            cases hw1 : (z.w == 1) with
            | false =>
              have HFX : Hid (S (q + 1) = Y) := by rw [HNX.out]; unfold fixAt; rw [HZZ.out, if_neg (beq_eq_false_iff_ne.1 hw1)]; rfl
              go_wp2_with fail
              go_roundw
              case rel => exact ⟨q + 1, HQ.out, by go_num, by rw [HFX.out]; exact S6⟩
              case measure => have := HQ.out; simp [intOf]; omega
            | true =>
              have HFX : Hid (S (q + 1) = Y.set (Z + J) (blank z.b)) := by rw [HNX.out]; unfold fixAt; rw [HZZ.out, if_pos (eq_of_beq hw1)]; rfl
              go_wp2_with fail
              refine (blank_any z.f z.b z.a z.l _).mono ?_
              rintro e w7 ⟨rfl, b7⟩
              have S7 : Hid (RzRel w w0.heap.size g hb vc C R C2 R2 (some ⟨ga, goff, none⟩) xs.length cp P2 Y w7) := S6.out.below b7
              clear b7 S6 e0 e1 e2 e3 e4 e5
              go_wp2_with (first
                | (refine gstore_list rfl _ _ rfl (d := blank z.b) (k := Z + J) (by show Value.pointer (some ⟨g, Z * 6 + J * 6, none⟩) = _; rw [← Nat.add_mul]) rfl S7.out.1 hZJ ?_; intro w8 r8 k8; have S8 : Hid (RzRel w w0.heap.size g hb vc C R C2 R2 (some ⟨ga, goff, none⟩) xs.length cp P2 (S (q + 1)) w8) := S7.out.put (by rw [HFX.out]; exact r8) k8 (by omega) hhb; clear r8 k8)
                | go_in)
              go_roundw
              case rel => exact ⟨q + 1, HQ.out, by go_num, S8⟩
              case measure => have := HQ.out; simp [intOf]; omega
          · obtain rfl : q = N := by omega
            have hdq : decide (q < q) = false := decide_eq_false hq
            have R4 := Lib.hid HR.out.1
            have A4 := Lib.hid HR.out.2.2.2.1
            have B4 := Lib.hid HR.out.2.2.2.2
            have hA := A4.out
            have g0 := Own.cell HR.out.2.1 0
            have g1 := Own.cell HR.out.2.1 1
            have g2 := Own.cell HR.out.2.1 2
            simp only [List.getElem?_toArray, List.getElem?_cons_zero, List.getElem?_cons_succ] at g0 g1 g2
            clear hq
            go_wp2_with (first
              | (refine gvstore_list rfl _ _ rfl (c := C2) (r := R2) (sa := some ⟨g, 0, none⟩) (sn := P2) (sc := vc) rfl rfl hA ?_; intro w9 o9 k9; have O9 := Lib.hid o9; have B9 : Hid (Below w.heap.size w w9) := below_grown B4.out k9 (by omega) B4.out.size; have R9 := Lib.hid (crow_other R4.out k9 (by omega)); clear o9 k9 hA)
              | go_in)
            clear g0 g1 g2
            have g0 := Own.cell O9.out 0
            have g1 := Own.cell O9.out 1
            have g2 := Own.cell O9.out 2
            simp only [List.getElem?_toArray, List.getElem?_cons_zero, List.getElem?_cons_succ] at g0 g1 g2
            (try simp only [Exit.inBlock, Exit.then])
            refine bodyPost_ret (v := .agg #[.int .i64 C2, .int .i64 R2, .slice (some ⟨g, 0, none⟩) P2 vc]) (by simp [results, Tryd.results39, go_sem, g0, g1, g2]) rfl ?_
            rw [HOI.out.1, HOI.out.2, HF.out, HN.out, ← HS.out]
            exact ⟨_, rfl, R9.out.up B0.out.size, B9.out⟩
end Go.Proofs.YtlhcehealjdbdaaDoor
