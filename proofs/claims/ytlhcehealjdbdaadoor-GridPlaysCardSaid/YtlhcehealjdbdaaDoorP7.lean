/- Part 7 of the texts that GridPlays stands on, one behind the other. -/
import Derived.Test.YtlhcehealjdbdaaDoorP6
import Derived.Deep.DeepCutAuto
import Derived.Test.YtlhcehealjdbdaaDoorP4
/- A grid in which a row was turned, by a closure. -/
namespace Go.Proofs.YtlhcehealjdbdaaDoor
open Go.RowKit
set_option linter.unusedSimpArgs false
set_option linter.unusedVariables false
attribute [local go_sem] alloc_drewN setCell_drewN

set_option maxRecDepth 10000 in
set_option maxHeartbeats 4000000 in
theorem turned75_any (c r y f b d l : Int) (p1 p2 p3 : Addr) (tf : List Glyph → List Glyph) (a : Option Addr) (n cp : Nat) (xs : List Glyph) (w : World) (hl : Cells w a n xs) (hcp : n ≤ cp) (ht : Tabs w)
    (hturn : ∀ (a' : Option Addr) (n' c' : Nat) (l' : List Glyph) (w' : World), Below w.heap.size w w' → Cells w' a' n' l' → Calls Tryd.prog 75 #[.slice a' n' c', .pointer (some p1), .pointer (some p2), .pointer (some p3)] w' (GPost (tf l') w'))
    (hlen : penMay f b = true → ∀ l', RowOk l' → (tf l').length = l'.length) :
    Calls Tryd.prog 72 #[.agg #[.int .i64 c, .int .i64 r, .slice a n cp], .int .i64 y, .agg #[.int .u32 f, .int .u32 b, .int .u8 d, .int .u16 l], (.func (.func 75) #[] #[.pointer (some p1), .pointer (some p2), .pointer (some p3)])] w (GG (okI c r xs f b c) (okI c r xs f b r) (turnP c r xs y f b tf) w) := by
  obtain rfl := hl.1
  have HL := Lib.hid hl
  have HT := Lib.hid ht
  have HTURN := Lib.hid hturn
  have HLEN := Lib.hid hlen
  clear hl ht hturn hlen
  obtain ⟨ok, hok⟩ : ∃ ok, (gridMay c r xs && penMay f b) = ok := ⟨_, rfl⟩
  have HOK := Lib.hid hok
  have HGO := Lib.hid (fun w0 hB hT => gown_any c r f b d l a xs.length cp xs w0 (HL.out.below (w' := w0) hB) hcp hT)
  rw [hok] at HGO
  have B0 : Hid (Below w.heap.size w (((w.alloc (.cells #[.int .i64 c, .int .i64 r, .slice a xs.length cp] 49)).alloc (.cells #[.int .u32 f, .int .u32 b, .int .u8 d, .int .u16 l] 26)).alloc (.cells #[.int .i64 0, .int .i64 0, .slice none 0 0] 49))) := (((Below.refl _ _).alloc (Nat.le_refl _) _).alloc (by simp) _).alloc (by simp; omega) _
  have G0 : Hid (Own (((w.alloc (.cells #[.int .i64 c, .int .i64 r, .slice a xs.length cp] 49)).alloc (.cells #[.int .u32 f, .int .u32 b, .int .u8 d, .int .u16 l] 26)).alloc (.cells #[.int .i64 0, .int .i64 0, .slice none 0 0] 49)) w.heap.size 49 #[.int .i64 c, .int .i64 r, .slice a xs.length cp]) := ((Own.new w 49 _).alloc _).alloc _
  have P0' : Own (((w.alloc (.cells #[.int .i64 c, .int .i64 r, .slice a xs.length cp] 49)).alloc (.cells #[.int .u32 f, .int .u32 b, .int .u8 d, .int .u16 l] 26)).alloc (.cells #[.int .i64 0, .int .i64 0, .slice none 0 0] 49)) (w.heap.size + 1) 26 #[.int .u32 f, .int .u32 b, .int .u8 d, .int .u16 l] := by
    have h := (Own.new (w.alloc (.cells #[.int .i64 c, .int .i64 r, .slice a xs.length cp] 49)) 26 #[.int .u32 f, .int .u32 b, .int .u8 d, .int .u16 l]).alloc (.cells #[.int .i64 0, .int .i64 0, .slice none 0 0] 49)
    simpa using h
  have A0' : Own (((w.alloc (.cells #[.int .i64 c, .int .i64 r, .slice a xs.length cp] 49)).alloc (.cells #[.int .u32 f, .int .u32 b, .int .u8 d, .int .u16 l] 26)).alloc (.cells #[.int .i64 0, .int .i64 0, .slice none 0 0] 49)) (w.heap.size + 2) 49 #[.int .i64 0, .int .i64 0, .slice none 0 0] := by
    have h := Own.new ((w.alloc (.cells #[.int .i64 c, .int .i64 r, .slice a xs.length cp] 49)).alloc (.cells #[.int .u32 f, .int .u32 b, .int .u8 d, .int .u16 l] 26)) 49 #[.int .i64 0, .int .i64 0, .slice none 0 0]
    simpa using h
  have P0 := Lib.hid P0'
  have A0 := Lib.hid A0'
  have hz0 : w.heap.size + 3 ≤ (((w.alloc (.cells #[.int .i64 c, .int .i64 r, .slice a xs.length cp] 49)).alloc (.cells #[.int .u32 f, .int .u32 b, .int .u8 d, .int .u16 l] 26)).alloc (.cells #[.int .i64 0, .int .i64 0, .slice none 0 0] 49)).heap.size := by simp
  clear P0' A0'
  have g0 := Own.cell G0.out 0
  have g1 := Own.cell G0.out 1
  have g2 := Own.cell G0.out 2
  simp only [List.getElem?_toArray, List.getElem?_cons_zero, List.getElem?_cons_succ] at g0 g1 g2
  have e0 := Own.cell P0.out 0
  have e1 := Own.cell P0.out 1
  have e2 := Own.cell P0.out 2
  have e3 := Own.cell P0.out 3
  simp only [List.getElem?_toArray, List.getElem?_cons_zero, List.getElem?_cons_succ] at e0 e1 e2 e3
  go_enter Tryd.func72, Tryd.ntmps72
  go_wp2_with fail
  refine (HGO.out _ B0.out (HT.out.below B0.out)).mono ?_
  clear HGO
  generalize ((w.alloc (.cells #[.int .i64 c, .int .i64 r, .slice a xs.length cp] 49)).alloc (.cells #[.int .u32 f, .int .u32 b, .int .u8 d, .int .u16 l] 26)).alloc (.cells #[.int .i64 0, .int .i64 0, .slice none 0 0] 49) = w0 at B0 G0 P0 A0 hz0 g0 g1 g2 e0 e1 e2 e3 ⊢
  clear g0 g1 g2 e0 e1 e2 e3
  cases ok with
  | false =>
    have HF : Hid (okI c r xs f b c = 0 ∧ okI c r xs f b r = 0 ∧ turnP c r xs y f b tf = []) := by unfold okI turnP; rw [hok]; exact ⟨rfl, rfl, rfl⟩
    clear hok
    rintro e w1 ⟨rfl, b1⟩
    have B1 : Hid (Below w.heap.size w w1) := B0.out.trans (b1.mono B0.out.size)
    have G1 := Lib.hid (G0.out.below b1 (by omega))
    have P1 := Lib.hid (P0.out.below b1 (by omega))
    have A1 := Lib.hid (A0.out.below b1 (by omega))
    have hz1 : w.heap.size + 3 ≤ w1.heap.size := Nat.le_trans hz0 b1.size
    clear b1
    have hG := G1.out
    go_upto_region 2 with (first
      | (refine gvstore_list rfl _ _ rfl (c := 0) (r := 0) (sa := none) (sn := 0) (sc := 0) rfl rfl hG ?_; intro w2 o2 k2; have G2 := Lib.hid o2; have B2 : Hid (Below w.heap.size w w2) := below_grown B1.out k2 (Nat.le_refl _) B1.out.size; have A2 := Lib.hid (A1.out.grown k2 (by intro e; injection e with e; omega)); clear o2 k2 hG)
      | go_in)
    (try simp only [Act.put])
    have g0 := Own.cell G2.out 0
    have g1 := Own.cell G2.out 1
    have g2 := Own.cell G2.out 2
    simp only [List.getElem?_toArray, List.getElem?_cons_zero, List.getElem?_cons_succ] at g0 g1 g2
    have hA := A2.out
    go_wp2_with (first
      | (refine gvstore_list rfl _ _ rfl (c := 0) (r := 0) (sa := none) (sn := 0) (sc := 0) rfl rfl hA ?_; intro w3 o3 k3; have O3 := Lib.hid o3; have B3 : Hid (Below w.heap.size w w3) := below_grown B2.out k3 (by omega) B2.out.size; clear o3 k3 hA)
      | go_in)
    clear g0 g1 g2
    have g0 := Own.cell O3.out 0
    have g1 := Own.cell O3.out 1
    have g2 := Own.cell O3.out 2
    simp only [List.getElem?_toArray, List.getElem?_cons_zero, List.getElem?_cons_succ] at g0 g1 g2
    (try simp only [Exit.inBlock, Exit.then])
    refine bodyPost_ret (v := .agg #[.int .i64 0, .int .i64 0, .slice none 0 0]) (by simp [results, Tryd.results72, go_sem, g0, g1, g2]) rfl ?_
    obtain ⟨h1, h2, h3⟩ := HF.out
    rw [h1, h2, h3]
    exact ⟨_, rfl, CRow.nil _ _, B3.out⟩
  | true =>
    rintro e w1 ⟨v1, rfl, r1, b1⟩
    have B1 : Hid (Below w.heap.size w w1) := B0.out.trans (b1.mono B0.out.size)
    have G1 := Lib.hid (G0.out.below b1 (by omega))
    have P1 := Lib.hid (P0.out.below b1 (by omega))
    have A1 := Lib.hid (A0.out.below b1 (by omega))
    have hz1 : w.heap.size + 3 ≤ w1.heap.size := Nat.le_trans hz0 b1.size
    obtain ⟨va, vc, rfl, _⟩ := r1.cells
    obtain ⟨C, R, rfl, rfl, hgo⟩ := gmay_iff.1 (Bool.and_eq_true_iff.1 hok).1
    obtain ⟨o1, o2, o3, o4, o5, o6⟩ := hgo
    have hpos : 0 < C * R := Nat.mul_pos (by omega) (by omega)
    have HRO := Lib.hid o6
    have hpen := (Bool.and_eq_true_iff.1 hok).2
    obtain ⟨g, rfl⟩ := crow_addr r1 (by omega)
    have hgb : w0.heap.size ≤ g := (crow_at r1 (k := 0) (by omega)).2.1
    have hvc := crow_cap r1 (by omega)
    have R1 : Hid (CRow w1 w0.heap.size (.slice (some ⟨g, 0, none⟩) xs.length vc) xs) := r1
    have HO5 := Lib.hid o5
    clear r1 b1 o6 o5
    have HOI : Hid (okI C R xs f b C = C ∧ okI C R xs f b R = R) := by unfold okI; rw [hok]; exact ⟨rfl, rfl⟩
    have HTP : Hid (turnP C R xs y f b tf = if 0 ≤ y ∧ y < (R : Int) then setRow xs C y.toNat (tf (rowOf C y.toNat xs)) else xs) := by unfold turnP; rw [hok, if_pos rfl, Int.toNat_natCast]; rfl
    have HPEN := Lib.hid hpen
    clear hok hpen
    have hG := G1.out
    go_upto_region 2 with (first
      | (refine gvstore_list rfl _ _ rfl (c := C) (r := R) (sa := some ⟨g, 0, none⟩) (sn := xs.length) (sc := vc) rfl rfl hG ?_; intro w2 o2 k2; have G2 := Lib.hid o2; have B2 : Hid (Below w.heap.size w w2) := below_grown B1.out k2 (Nat.le_refl _) B1.out.size; have A2 := Lib.hid (A1.out.grown k2 (by intro e; injection e with e; omega)); have R2 : Hid (CRow w2 w0.heap.size (.slice (some ⟨g, 0, none⟩) xs.length vc) xs) := crow_other R1.out k2 (by omega); have hz2 : w.heap.size + 3 ≤ w2.heap.size := Nat.le_trans hz1 k2.size; clear o2 k2 hG)
      | go_in)
    (try simp only [Act.put])
    have g0 := Own.cell G2.out 0
    have g1 := Own.cell G2.out 1
    have g2 := Own.cell G2.out 2
    simp only [List.getElem?_toArray, List.getElem?_cons_zero, List.getElem?_cons_succ] at g0 g1 g2
    by_cases hy : 0 ≤ y ∧ y < (R : Int)
    · obtain ⟨Y, rfl⟩ : ∃ Y : Nat, y = Y := ⟨y.toNat, by omega⟩
      have hYR : Y < R := by omega
      have hd0 : decide ((0 : Int) ≤ (Y : Int)) = true := decide_eq_true hy.1
      have hd1 : decide (Y < R) = true := decide_eq_true hYR
      have HF : Hid (turnP C R xs Y f b tf = setRow xs C Y (tf (rowOf C Y xs))) := by rw [HTP.out, if_pos hy, Int.toNat_natCast]; rfl
      have hmr := mul_row (c := C) hYR
      have HTL : Hid ((tf (rowOf C Y xs)).length = C) := (HLEN.out HPEN.out _ (HRO.out Y hYR)).trans (row_len HO5.out hYR)
      have D4 : Hid (Below w.heap.size w w2.drew) := below_drewN B2.out 1
      have R4 : Hid (CRow w2.drew w0.heap.size (.slice (some ⟨g, 0, none⟩) xs.length vc) xs) := R2.out
      have z4 : w.heap.size + 3 ≤ w2.drew.heap.size := hz2
      have S4 : Hid (w2.drew.cell? ⟨w.heap.size, 0, none⟩ = some (.int .i64 C) ∧ w2.drew.cell? ⟨w.heap.size, 1, none⟩ = some (.int .i64 R) ∧ w2.drew.cell? ⟨w.heap.size, 2, none⟩ = some (.slice (some ⟨g, 0, none⟩) xs.length vc)) := ⟨g0, g1, g2⟩
      have G4 : Hid (Own w2.drew w.heap.size 49 #[.int .i64 C, .int .i64 R, .slice (some ⟨g, 0, none⟩) xs.length vc]) := G2.out
      have A4 : Hid (Own w2.drew (w.heap.size + 2) 49 #[.int .i64 0, .int .i64 0, .slice none 0 0]) := A2.out
      have H4 : Hid (Below w2.drew.heap.size w2.drew w2.drew) := Below.refl _ _
      clear hy
      go_wp2_with fail
      clear g0 g1 g2
      refine wp_region_bits_at (S := fun w' => w'.cell? ⟨w.heap.size, 0, none⟩ = some (.int .i64 C) ∧ w'.cell? ⟨w.heap.size, 1, none⟩ = some (.int .i64 R) ∧ w'.cell? ⟨w.heap.size, 2, none⟩ = some (.slice (some ⟨g, 0, none⟩) xs.length vc)) [(0, true), (1, true), (3, true), (4, true), (5, true), (2, false), (6, false), (7, false), (8, false)] [8] (by kernel_rfl) (by kernel_rfl) (fun c a d v w h => by cases d <;> exact h) S4.out ?_
      simp only [bits_, bitOf, List.getElem?_cons_zero, List.getElem?_cons_succ, List.contains_nil, List.contains_cons, Nat.reduceBEq, Bool.or_false]
      repeat (first | (refine bits_take (v := ?_) (by rfl) ?_ ?_; rotate_left; (· intro w' hS; obtain ⟨s0, s1, s2⟩ := hS; go_simp; (try (go_ints; try go_simp)); with_reducible rfl); (try simp only [Act.put, List.setIfInBounds_toArray, List.set_cons_zero, List.set_cons_succ])) | (refine bits_skip (by rfl) ?_; (try simp only [Act.put, List.setIfInBounds_toArray, List.set_cons_zero, List.set_cons_succ])))
      refine bits_eff (by rfl) (fun K hK => ?_)
      go_simp
      (try go_ints)
      refine (grow_any C Y R g 0 xs.length vc R _ o1 o2 hYR o4 HO5.out hvc).mono ?_
      rintro e w5 ⟨rfl, b5⟩
      have D5 : Hid (Below w.heap.size w w5) := D4.out.trans (b5.mono D4.out.size)
      have R5 := Lib.hid (R4.out.below b5)
      have z5 : w.heap.size + 3 ≤ w5.heap.size := Nat.le_trans z4 b5.size
      have S5 : Hid (w5.cell? ⟨w.heap.size, 0, none⟩ = some (.int .i64 C) ∧ w5.cell? ⟨w.heap.size, 1, none⟩ = some (.int .i64 R) ∧ w5.cell? ⟨w.heap.size, 2, none⟩ = some (.slice (some ⟨g, 0, none⟩) xs.length vc)) := ⟨(b5.cell (p := ⟨w.heap.size, 0, none⟩) (by show w.heap.size < w2.drew.heap.size; omega)).trans S4.out.1, (b5.cell (p := ⟨w.heap.size, 1, none⟩) (by show w.heap.size < w2.drew.heap.size; omega)).trans S4.out.2.1, (b5.cell (p := ⟨w.heap.size, 2, none⟩) (by show w.heap.size < w2.drew.heap.size; omega)).trans S4.out.2.2⟩
      have H5 : Hid (Below w2.drew.heap.size w2.drew w5) := H4.out.trans (b5.mono H4.out.size)
      clear b5
      refine hK _ _ ?_ ?_
      · exact S5.out
      clear hK K
      (try simp only [Act.put, List.setIfInBounds_toArray, List.set_cons_zero, List.set_cons_succ])
      repeat (first | (refine bits_take (v := ?_) (by rfl) ?_ ?_; rotate_left; (· intro w' hS; obtain ⟨s0, s1, s2⟩ := hS; go_simp; (try (go_ints; try go_simp)); with_reducible rfl); (try simp only [Act.put, List.setIfInBounds_toArray, List.set_cons_zero, List.set_cons_succ])) | (refine bits_skip (by rfl) ?_; (try simp only [Act.put, List.setIfInBounds_toArray, List.set_cons_zero, List.set_cons_succ])))
      refine bits_eff (by rfl) (fun K hK => ?_)
      go_simp
      (try go_ints)
      refine (grow_any C Y R g 0 xs.length vc R _ o1 o2 hYR o4 HO5.out hvc).mono ?_
      rintro e w6 ⟨rfl, b6⟩
      have D6 : Hid (Below w.heap.size w w6) := D5.out.trans (b6.mono D5.out.size)
      have R6 := Lib.hid (R5.out.below b6)
      have z6 : w.heap.size + 3 ≤ w6.heap.size := Nat.le_trans z5 b6.size
      have S6 : Hid (w6.cell? ⟨w.heap.size, 0, none⟩ = some (.int .i64 C) ∧ w6.cell? ⟨w.heap.size, 1, none⟩ = some (.int .i64 R) ∧ w6.cell? ⟨w.heap.size, 2, none⟩ = some (.slice (some ⟨g, 0, none⟩) xs.length vc)) := ⟨(b6.cell (p := ⟨w.heap.size, 0, none⟩) (by show w.heap.size < w5.heap.size; omega)).trans S5.out.1, (b6.cell (p := ⟨w.heap.size, 1, none⟩) (by show w.heap.size < w5.heap.size; omega)).trans S5.out.2.1, (b6.cell (p := ⟨w.heap.size, 2, none⟩) (by show w.heap.size < w5.heap.size; omega)).trans S5.out.2.2⟩
      have H6 : Hid (Below w2.drew.heap.size w2.drew w6) := H5.out.trans (b6.mono H5.out.size)
      have HPART : Hid (Cells w6 (some ⟨g, Y * C * 6, none⟩) C (rowOf C Y xs)) := by
        have h := cells_part (cells_of R6.out) (s := Y * C) (m := C) (by have := HO5.out; omega)
        rw [Nat.zero_add] at h
        exact h
      clear b6
      refine hK _ _ ?_ ?_
      · exact S6.out
      clear hK K
      (try simp only [Act.put, List.setIfInBounds_toArray, List.set_cons_zero, List.set_cons_succ])
      repeat (first | (refine bits_take (v := ?_) (by rfl) ?_ ?_; rotate_left; (· intro w' hS; obtain ⟨s0, s1, s2⟩ := hS; go_simp; (try (go_ints; try go_simp)); with_reducible rfl); (try simp only [Act.put, List.setIfInBounds_toArray, List.set_cons_zero, List.set_cons_succ])) | (refine bits_skip (by rfl) ?_; (try simp only [Act.put, List.setIfInBounds_toArray, List.set_cons_zero, List.set_cons_succ])))
      refine bits_eff (by rfl) (fun K hK => ?_)
      go_simp
      (try go_ints)
      refine (HTURN.out _ C C (rowOf C Y xs) w6 D6.out HPART.out).mono ?_
      rintro e w7 ⟨v7, rfl, r7, b7⟩
      have D7 : Hid (Below w.heap.size w w7) := D6.out.trans (b7.mono D6.out.size)
      have R7 := Lib.hid (R6.out.below b7)
      have z7 : w.heap.size + 3 ≤ w7.heap.size := Nat.le_trans z6 b7.size
      have S7 : Hid (w7.cell? ⟨w.heap.size, 0, none⟩ = some (.int .i64 C) ∧ w7.cell? ⟨w.heap.size, 1, none⟩ = some (.int .i64 R) ∧ w7.cell? ⟨w.heap.size, 2, none⟩ = some (.slice (some ⟨g, 0, none⟩) xs.length vc)) := ⟨(b7.cell (p := ⟨w.heap.size, 0, none⟩) (by show w.heap.size < w6.heap.size; omega)).trans S6.out.1, (b7.cell (p := ⟨w.heap.size, 1, none⟩) (by show w.heap.size < w6.heap.size; omega)).trans S6.out.2.1, (b7.cell (p := ⟨w.heap.size, 2, none⟩) (by show w.heap.size < w6.heap.size; omega)).trans S6.out.2.2⟩
      have H7 : Hid (Below w2.drew.heap.size w2.drew w7) := H6.out.trans (b7.mono H6.out.size)
      obtain ⟨ta, tc, rfl, tl⟩ := r7.cells
      have TL := Lib.hid tl
      clear b7 r7 tl
      refine hK _ _ ?_ ?_
      · exact S7.out
      clear hK K
      (try simp only [Act.put, List.setIfInBounds_toArray, List.set_cons_zero, List.set_cons_succ])
      repeat (first | (refine bits_take (v := ?_) (by rfl) ?_ ?_; rotate_left; (· intro w' hS; obtain ⟨s0, s1, s2⟩ := hS; go_simp; (try (go_ints; try go_simp)); with_reducible rfl); (try simp only [Act.put, List.setIfInBounds_toArray, List.set_cons_zero, List.set_cons_succ])) | (refine bits_skip (by rfl) ?_; (try simp only [Act.put, List.setIfInBounds_toArray, List.set_cons_zero, List.set_cons_succ])))
      refine bits_tail (by rfl) (fun K hK => ?_)
      refine gpart_op _ _ rfl (Y * C) C rfl rfl R7.out TL.out ?_ ?_ ?_ fun w8 r8 k8 => ?_
      · rw [HTL.out]; exact (Nat.min_self C).symm
      · have := HO5.out; omega
      · exact fun _ => rfl
      refine hK _ _ ?_
      clear hK K
      (try simp only [Act.put])
      repeat (first | (refine bits_take (v := ?_) (by rfl) ?_ ?_; rotate_left; (· intro w' hS; obtain ⟨s0, s1, s2⟩ := hS; go_simp; (try (go_ints; try go_simp)); with_reducible rfl); (try simp only [Act.put, List.setIfInBounds_toArray, List.set_cons_zero, List.set_cons_succ])) | (refine bits_skip (by rfl) ?_; (try simp only [Act.put, List.setIfInBounds_toArray, List.set_cons_zero, List.set_cons_succ])))
      refine bits_nil ?_
      have G8 := Lib.hid ((G4.out.below H7.out G4.out.lt).grown k8 (by intro e; injection e with e; omega))
      have A8 := Lib.hid ((A4.out.below H7.out A4.out.lt).grown k8 (by intro e; injection e with e; omega))
      have R8 : Hid (CRow w8 w0.heap.size (.slice (some ⟨g, 0, none⟩) xs.length vc) (setRow xs C Y (tf (rowOf C Y xs)))) := by
        rw [List.take_of_length_le (l := tf (rowOf C Y xs)) (by rw [HTL.out]; exact Nat.le_refl _)] at r8
        exact r8
      have B8 : Hid (Below w.heap.size w w8) := below_grown D7.out k8 (by omega) D7.out.size
      clear r8 k8
      have g0 := Own.cell G8.out 0
      have g1 := Own.cell G8.out 1
      have g2 := Own.cell G8.out 2
      simp only [List.getElem?_toArray, List.getElem?_cons_zero, List.getElem?_cons_succ] at g0 g1 g2
      have hA := A8.out
      go_wp2_with (first
        | (refine gvstore_list rfl _ _ rfl (c := C) (r := R) (sa := some ⟨g, 0, none⟩) (sn := xs.length) (sc := vc) rfl rfl hA ?_; intro w9 o9 k9; have O9 := Lib.hid o9; have B9 : Hid (Below w.heap.size w w9) := below_grown B8.out k9 (by omega) B8.out.size; have R9 : Hid (CRow w9 w0.heap.size (.slice (some ⟨g, 0, none⟩) xs.length vc) (setRow xs C Y (tf (rowOf C Y xs)))) := crow_other R8.out k9 (by omega); clear o9 k9 hA)
        | go_in)
      clear g0 g1 g2
      have g0 := Own.cell O9.out 0
      have g1 := Own.cell O9.out 1
      have g2 := Own.cell O9.out 2
      simp only [List.getElem?_toArray, List.getElem?_cons_zero, List.getElem?_cons_succ] at g0 g1 g2
      (try simp only [Exit.inBlock, Exit.then])
      refine bodyPost_ret (v := .agg #[.int .i64 C, .int .i64 R, .slice (some ⟨g, 0, none⟩) xs.length vc]) (by simp [results, Tryd.results72, go_sem, g0, g1, g2]) rfl ?_
      rw [HOI.out.1, HOI.out.2, HF.out]
      exact ⟨_, rfl, R9.out.up B0.out.size, B9.out⟩
    · have HF : Hid (turnP C R xs y f b tf = xs) := by rw [HTP.out, if_neg hy]; rfl
      have hA := A2.out
      go_upto_region 2 with fail
      go_cut [26] (fun v wc => v = .bool false ∧ wc = w2)
      case first =>
        cases hd0 : decide ((0 : Int) ≤ y) with
        | false =>
          go_wp2_with fail
          go_meet
          exact ⟨rfl, rfl⟩
        | true =>
          have hd1 : decide (y < (R : Int)) = false := decide_eq_false (fun h => hy ⟨of_decide_eq_true hd0, h⟩)
          go_wp2_with fail
          go_meet
          exact ⟨rfl, rfl⟩
      case rest =>
        obtain ⟨rfl, rfl⟩ := hcut
        go_wp2_with (first
          | (refine gvstore_list rfl _ _ rfl (c := C) (r := R) (sa := some ⟨g, 0, none⟩) (sn := xs.length) (sc := vc) rfl rfl hA ?_; intro w9 o9 k9; have O9 := Lib.hid o9; have B9 : Hid (Below w.heap.size w w9) := below_grown B2.out k9 (by omega) B2.out.size; have R9 : Hid (CRow w9 w0.heap.size (.slice (some ⟨g, 0, none⟩) xs.length vc) xs) := crow_other R2.out k9 (by omega); clear o9 k9 hA)
          | go_in)
        clear g0 g1 g2
        have g0 := Own.cell O9.out 0
        have g1 := Own.cell O9.out 1
        have g2 := Own.cell O9.out 2
        simp only [List.getElem?_toArray, List.getElem?_cons_zero, List.getElem?_cons_succ] at g0 g1 g2
        (try simp only [Exit.inBlock, Exit.then])
        refine bodyPost_ret (v := .agg #[.int .i64 C, .int .i64 R, .slice (some ⟨g, 0, none⟩) xs.length vc]) (by simp [results, Tryd.results72, go_sem, g0, g1, g2]) rfl ?_
        rw [HOI.out.1, HOI.out.2, HF.out]
        exact ⟨_, rfl, R9.out.up B0.out.size, B9.out⟩
end Go.Proofs.YtlhcehealjdbdaaDoor
/- A grid in which a row was turned, by a closure. -/
namespace Go.Proofs.YtlhcehealjdbdaaDoor
open Go.RowKit
set_option linter.unusedSimpArgs false
set_option linter.unusedVariables false
attribute [local go_sem] alloc_drewN setCell_drewN

set_option maxRecDepth 10000 in
set_option maxHeartbeats 4000000 in
theorem turned76_any (c r y f b d l : Int) (p1 p2 p3 : Addr) (tf : List Glyph → List Glyph) (a : Option Addr) (n cp : Nat) (xs : List Glyph) (w : World) (hl : Cells w a n xs) (hcp : n ≤ cp) (ht : Tabs w)
    (hturn : ∀ (a' : Option Addr) (n' c' : Nat) (l' : List Glyph) (w' : World), Below w.heap.size w w' → Cells w' a' n' l' → Calls Tryd.prog 76 #[.slice a' n' c', .pointer (some p1), .pointer (some p2), .pointer (some p3)] w' (GPost (tf l') w'))
    (hlen : penMay f b = true → ∀ l', RowOk l' → (tf l').length = l'.length) :
    Calls Tryd.prog 72 #[.agg #[.int .i64 c, .int .i64 r, .slice a n cp], .int .i64 y, .agg #[.int .u32 f, .int .u32 b, .int .u8 d, .int .u16 l], (.func (.func 76) #[] #[.pointer (some p1), .pointer (some p2), .pointer (some p3)])] w (GG (okI c r xs f b c) (okI c r xs f b r) (turnP c r xs y f b tf) w) := by
  obtain rfl := hl.1
  have HL := Lib.hid hl
  have HT := Lib.hid ht
  have HTURN := Lib.hid hturn
  have HLEN := Lib.hid hlen
  clear hl ht hturn hlen
  obtain ⟨ok, hok⟩ : ∃ ok, (gridMay c r xs && penMay f b) = ok := ⟨_, rfl⟩
  have HOK := Lib.hid hok
  have HGO := Lib.hid (fun w0 hB hT => gown_any c r f b d l a xs.length cp xs w0 (HL.out.below (w' := w0) hB) hcp hT)
  rw [hok] at HGO
  have B0 : Hid (Below w.heap.size w (((w.alloc (.cells #[.int .i64 c, .int .i64 r, .slice a xs.length cp] 49)).alloc (.cells #[.int .u32 f, .int .u32 b, .int .u8 d, .int .u16 l] 26)).alloc (.cells #[.int .i64 0, .int .i64 0, .slice none 0 0] 49))) := (((Below.refl _ _).alloc (Nat.le_refl _) _).alloc (by simp) _).alloc (by simp; omega) _
  have G0 : Hid (Own (((w.alloc (.cells #[.int .i64 c, .int .i64 r, .slice a xs.length cp] 49)).alloc (.cells #[.int .u32 f, .int .u32 b, .int .u8 d, .int .u16 l] 26)).alloc (.cells #[.int .i64 0, .int .i64 0, .slice none 0 0] 49)) w.heap.size 49 #[.int .i64 c, .int .i64 r, .slice a xs.length cp]) := ((Own.new w 49 _).alloc _).alloc _
  have P0' : Own (((w.alloc (.cells #[.int .i64 c, .int .i64 r, .slice a xs.length cp] 49)).alloc (.cells #[.int .u32 f, .int .u32 b, .int .u8 d, .int .u16 l] 26)).alloc (.cells #[.int .i64 0, .int .i64 0, .slice none 0 0] 49)) (w.heap.size + 1) 26 #[.int .u32 f, .int .u32 b, .int .u8 d, .int .u16 l] := by
    have h := (Own.new (w.alloc (.cells #[.int .i64 c, .int .i64 r, .slice a xs.length cp] 49)) 26 #[.int .u32 f, .int .u32 b, .int .u8 d, .int .u16 l]).alloc (.cells #[.int .i64 0, .int .i64 0, .slice none 0 0] 49)
    simpa using h
  have A0' : Own (((w.alloc (.cells #[.int .i64 c, .int .i64 r, .slice a xs.length cp] 49)).alloc (.cells #[.int .u32 f, .int .u32 b, .int .u8 d, .int .u16 l] 26)).alloc (.cells #[.int .i64 0, .int .i64 0, .slice none 0 0] 49)) (w.heap.size + 2) 49 #[.int .i64 0, .int .i64 0, .slice none 0 0] := by
    have h := Own.new ((w.alloc (.cells #[.int .i64 c, .int .i64 r, .slice a xs.length cp] 49)).alloc (.cells #[.int .u32 f, .int .u32 b, .int .u8 d, .int .u16 l] 26)) 49 #[.int .i64 0, .int .i64 0, .slice none 0 0]
    simpa using h
  have P0 := Lib.hid P0'
  have A0 := Lib.hid A0'
  have hz0 : w.heap.size + 3 ≤ (((w.alloc (.cells #[.int .i64 c, .int .i64 r, .slice a xs.length cp] 49)).alloc (.cells #[.int .u32 f, .int .u32 b, .int .u8 d, .int .u16 l] 26)).alloc (.cells #[.int .i64 0, .int .i64 0, .slice none 0 0] 49)).heap.size := by simp
  clear P0' A0'
  have g0 := Own.cell G0.out 0
  have g1 := Own.cell G0.out 1
  have g2 := Own.cell G0.out 2
  simp only [List.getElem?_toArray, List.getElem?_cons_zero, List.getElem?_cons_succ] at g0 g1 g2
  have e0 := Own.cell P0.out 0
  have e1 := Own.cell P0.out 1
  have e2 := Own.cell P0.out 2
  have e3 := Own.cell P0.out 3
  simp only [List.getElem?_toArray, List.getElem?_cons_zero, List.getElem?_cons_succ] at e0 e1 e2 e3
  go_enter Tryd.func72, Tryd.ntmps72
  go_wp2_with fail
  refine (HGO.out _ B0.out (HT.out.below B0.out)).mono ?_
  clear HGO
  generalize ((w.alloc (.cells #[.int .i64 c, .int .i64 r, .slice a xs.length cp] 49)).alloc (.cells #[.int .u32 f, .int .u32 b, .int .u8 d, .int .u16 l] 26)).alloc (.cells #[.int .i64 0, .int .i64 0, .slice none 0 0] 49) = w0 at B0 G0 P0 A0 hz0 g0 g1 g2 e0 e1 e2 e3 ⊢
  clear g0 g1 g2 e0 e1 e2 e3
  cases ok with
  | false =>
    have HF : Hid (okI c r xs f b c = 0 ∧ okI c r xs f b r = 0 ∧ turnP c r xs y f b tf = []) := by unfold okI turnP; rw [hok]; exact ⟨rfl, rfl, rfl⟩
    clear hok
    rintro e w1 ⟨rfl, b1⟩
    have B1 : Hid (Below w.heap.size w w1) := B0.out.trans (b1.mono B0.out.size)
    have G1 := Lib.hid (G0.out.below b1 (by omega))
    have P1 := Lib.hid (P0.out.below b1 (by omega))
    have A1 := Lib.hid (A0.out.below b1 (by omega))
    have hz1 : w.heap.size + 3 ≤ w1.heap.size := Nat.le_trans hz0 b1.size
    clear b1
    have hG := G1.out
    go_upto_region 2 with (first
      | (refine gvstore_list rfl _ _ rfl (c := 0) (r := 0) (sa := none) (sn := 0) (sc := 0) rfl rfl hG ?_; intro w2 o2 k2; have G2 := Lib.hid o2; have B2 : Hid (Below w.heap.size w w2) := below_grown B1.out k2 (Nat.le_refl _) B1.out.size; have A2 := Lib.hid (A1.out.grown k2 (by intro e; injection e with e; omega)); clear o2 k2 hG)
      | go_in)
    (try simp only [Act.put])
    have g0 := Own.cell G2.out 0
    have g1 := Own.cell G2.out 1
    have g2 := Own.cell G2.out 2
    simp only [List.getElem?_toArray, List.getElem?_cons_zero, List.getElem?_cons_succ] at g0 g1 g2
    have hA := A2.out
    go_wp2_with (first
      | (refine gvstore_list rfl _ _ rfl (c := 0) (r := 0) (sa := none) (sn := 0) (sc := 0) rfl rfl hA ?_; intro w3 o3 k3; have O3 := Lib.hid o3; have B3 : Hid (Below w.heap.size w w3) := below_grown B2.out k3 (by omega) B2.out.size; clear o3 k3 hA)
      | go_in)
    clear g0 g1 g2
    have g0 := Own.cell O3.out 0
    have g1 := Own.cell O3.out 1
    have g2 := Own.cell O3.out 2
    simp only [List.getElem?_toArray, List.getElem?_cons_zero, List.getElem?_cons_succ] at g0 g1 g2
    (try simp only [Exit.inBlock, Exit.then])
    refine bodyPost_ret (v := .agg #[.int .i64 0, .int .i64 0, .slice none 0 0]) (by simp [results, Tryd.results72, go_sem, g0, g1, g2]) rfl ?_
    obtain ⟨h1, h2, h3⟩ := HF.out
    rw [h1, h2, h3]
    exact ⟨_, rfl, CRow.nil _ _, B3.out⟩
  | true =>
    rintro e w1 ⟨v1, rfl, r1, b1⟩
    have B1 : Hid (Below w.heap.size w w1) := B0.out.trans (b1.mono B0.out.size)
    have G1 := Lib.hid (G0.out.below b1 (by omega))
    have P1 := Lib.hid (P0.out.below b1 (by omega))
    have A1 := Lib.hid (A0.out.below b1 (by omega))
    have hz1 : w.heap.size + 3 ≤ w1.heap.size := Nat.le_trans hz0 b1.size
    obtain ⟨va, vc, rfl, _⟩ := r1.cells
    obtain ⟨C, R, rfl, rfl, hgo⟩ := gmay_iff.1 (Bool.and_eq_true_iff.1 hok).1
    obtain ⟨o1, o2, o3, o4, o5, o6⟩ := hgo
    have hpos : 0 < C * R := Nat.mul_pos (by omega) (by omega)
    have HRO := Lib.hid o6
    have hpen := (Bool.and_eq_true_iff.1 hok).2
    obtain ⟨g, rfl⟩ := crow_addr r1 (by omega)
    have hgb : w0.heap.size ≤ g := (crow_at r1 (k := 0) (by omega)).2.1
    have hvc := crow_cap r1 (by omega)
    have R1 : Hid (CRow w1 w0.heap.size (.slice (some ⟨g, 0, none⟩) xs.length vc) xs) := r1
    have HO5 := Lib.hid o5
    clear r1 b1 o6 o5
    have HOI : Hid (okI C R xs f b C = C ∧ okI C R xs f b R = R) := by unfold okI; rw [hok]; exact ⟨rfl, rfl⟩
    have HTP : Hid (turnP C R xs y f b tf = if 0 ≤ y ∧ y < (R : Int) then setRow xs C y.toNat (tf (rowOf C y.toNat xs)) else xs) := by unfold turnP; rw [hok, if_pos rfl, Int.toNat_natCast]; rfl
    have HPEN := Lib.hid hpen
    clear hok hpen
    have hG := G1.out
    go_upto_region 2 with (first
      | (refine gvstore_list rfl _ _ rfl (c := C) (r := R) (sa := some ⟨g, 0, none⟩) (sn := xs.length) (sc := vc) rfl rfl hG ?_; intro w2 o2 k2; have G2 := Lib.hid o2; have B2 : Hid (Below w.heap.size w w2) := below_grown B1.out k2 (Nat.le_refl _) B1.out.size; have A2 := Lib.hid (A1.out.grown k2 (by intro e; injection e with e; omega)); have R2 : Hid (CRow w2 w0.heap.size (.slice (some ⟨g, 0, none⟩) xs.length vc) xs) := crow_other R1.out k2 (by omega); have hz2 : w.heap.size + 3 ≤ w2.heap.size := Nat.le_trans hz1 k2.size; clear o2 k2 hG)
      | go_in)
    (try simp only [Act.put])
    have g0 := Own.cell G2.out 0
    have g1 := Own.cell G2.out 1
    have g2 := Own.cell G2.out 2
    simp only [List.getElem?_toArray, List.getElem?_cons_zero, List.getElem?_cons_succ] at g0 g1 g2
    by_cases hy : 0 ≤ y ∧ y < (R : Int)
    · obtain ⟨Y, rfl⟩ : ∃ Y : Nat, y = Y := ⟨y.toNat, by omega⟩
      have hYR : Y < R := by omega
      have hd0 : decide ((0 : Int) ≤ (Y : Int)) = true := decide_eq_true hy.1
      have hd1 : decide (Y < R) = true := decide_eq_true hYR
      have HF : Hid (turnP C R xs Y f b tf = setRow xs C Y (tf (rowOf C Y xs))) := by rw [HTP.out, if_pos hy, Int.toNat_natCast]; rfl
      have hmr := mul_row (c := C) hYR
      have HTL : Hid ((tf (rowOf C Y xs)).length = C) := (HLEN.out HPEN.out _ (HRO.out Y hYR)).trans (row_len HO5.out hYR)
      have D4 : Hid (Below w.heap.size w w2.drew) := below_drewN B2.out 1
      have R4 : Hid (CRow w2.drew w0.heap.size (.slice (some ⟨g, 0, none⟩) xs.length vc) xs) := R2.out
      have z4 : w.heap.size + 3 ≤ w2.drew.heap.size := hz2
      have S4 : Hid (w2.drew.cell? ⟨w.heap.size, 0, none⟩ = some (.int .i64 C) ∧ w2.drew.cell? ⟨w.heap.size, 1, none⟩ = some (.int .i64 R) ∧ w2.drew.cell? ⟨w.heap.size, 2, none⟩ = some (.slice (some ⟨g, 0, none⟩) xs.length vc)) := ⟨g0, g1, g2⟩
      have G4 : Hid (Own w2.drew w.heap.size 49 #[.int .i64 C, .int .i64 R, .slice (some ⟨g, 0, none⟩) xs.length vc]) := G2.out
      have A4 : Hid (Own w2.drew (w.heap.size + 2) 49 #[.int .i64 0, .int .i64 0, .slice none 0 0]) := A2.out
      have H4 : Hid (Below w2.drew.heap.size w2.drew w2.drew) := Below.refl _ _
      clear hy
      go_wp2_with fail
      clear g0 g1 g2
      refine wp_region_bits_at (S := fun w' => w'.cell? ⟨w.heap.size, 0, none⟩ = some (.int .i64 C) ∧ w'.cell? ⟨w.heap.size, 1, none⟩ = some (.int .i64 R) ∧ w'.cell? ⟨w.heap.size, 2, none⟩ = some (.slice (some ⟨g, 0, none⟩) xs.length vc)) [(0, true), (1, true), (3, true), (4, true), (5, true), (2, false), (6, false), (7, false), (8, false)] [8] (by kernel_rfl) (by kernel_rfl) (fun c a d v w h => by cases d <;> exact h) S4.out ?_
      simp only [bits_, bitOf, List.getElem?_cons_zero, List.getElem?_cons_succ, List.contains_nil, List.contains_cons, Nat.reduceBEq, Bool.or_false]
      repeat (first | (refine bits_take (v := ?_) (by rfl) ?_ ?_; rotate_left; (· intro w' hS; obtain ⟨s0, s1, s2⟩ := hS; go_simp; (try (go_ints; try go_simp)); with_reducible rfl); (try simp only [Act.put, List.setIfInBounds_toArray, List.set_cons_zero, List.set_cons_succ])) | (refine bits_skip (by rfl) ?_; (try simp only [Act.put, List.setIfInBounds_toArray, List.set_cons_zero, List.set_cons_succ])))
      refine bits_eff (by rfl) (fun K hK => ?_)
      go_simp
      (try go_ints)
      refine (grow_any C Y R g 0 xs.length vc R _ o1 o2 hYR o4 HO5.out hvc).mono ?_
      rintro e w5 ⟨rfl, b5⟩
      have D5 : Hid (Below w.heap.size w w5) := D4.out.trans (b5.mono D4.out.size)
      have R5 := Lib.hid (R4.out.below b5)
      have z5 : w.heap.size + 3 ≤ w5.heap.size := Nat.le_trans z4 b5.size
      have S5 : Hid (w5.cell? ⟨w.heap.size, 0, none⟩ = some (.int .i64 C) ∧ w5.cell? ⟨w.heap.size, 1, none⟩ = some (.int .i64 R) ∧ w5.cell? ⟨w.heap.size, 2, none⟩ = some (.slice (some ⟨g, 0, none⟩) xs.length vc)) := ⟨(b5.cell (p := ⟨w.heap.size, 0, none⟩) (by show w.heap.size < w2.drew.heap.size; omega)).trans S4.out.1, (b5.cell (p := ⟨w.heap.size, 1, none⟩) (by show w.heap.size < w2.drew.heap.size; omega)).trans S4.out.2.1, (b5.cell (p := ⟨w.heap.size, 2, none⟩) (by show w.heap.size < w2.drew.heap.size; omega)).trans S4.out.2.2⟩
      have H5 : Hid (Below w2.drew.heap.size w2.drew w5) := H4.out.trans (b5.mono H4.out.size)
      clear b5
      refine hK _ _ ?_ ?_
      · exact S5.out
      clear hK K
      (try simp only [Act.put, List.setIfInBounds_toArray, List.set_cons_zero, List.set_cons_succ])
      repeat (first | (refine bits_take (v := ?_) (by rfl) ?_ ?_; rotate_left; (· intro w' hS; obtain ⟨s0, s1, s2⟩ := hS; go_simp; (try (go_ints; try go_simp)); with_reducible rfl); (try simp only [Act.put, List.setIfInBounds_toArray, List.set_cons_zero, List.set_cons_succ])) | (refine bits_skip (by rfl) ?_; (try simp only [Act.put, List.setIfInBounds_toArray, List.set_cons_zero, List.set_cons_succ])))
      refine bits_eff (by rfl) (fun K hK => ?_)
      go_simp
      (try go_ints)
      refine (grow_any C Y R g 0 xs.length vc R _ o1 o2 hYR o4 HO5.out hvc).mono ?_
      rintro e w6 ⟨rfl, b6⟩
      have D6 : Hid (Below w.heap.size w w6) := D5.out.trans (b6.mono D5.out.size)
      have R6 := Lib.hid (R5.out.below b6)
      have z6 : w.heap.size + 3 ≤ w6.heap.size := Nat.le_trans z5 b6.size
      have S6 : Hid (w6.cell? ⟨w.heap.size, 0, none⟩ = some (.int .i64 C) ∧ w6.cell? ⟨w.heap.size, 1, none⟩ = some (.int .i64 R) ∧ w6.cell? ⟨w.heap.size, 2, none⟩ = some (.slice (some ⟨g, 0, none⟩) xs.length vc)) := ⟨(b6.cell (p := ⟨w.heap.size, 0, none⟩) (by show w.heap.size < w5.heap.size; omega)).trans S5.out.1, (b6.cell (p := ⟨w.heap.size, 1, none⟩) (by show w.heap.size < w5.heap.size; omega)).trans S5.out.2.1, (b6.cell (p := ⟨w.heap.size, 2, none⟩) (by show w.heap.size < w5.heap.size; omega)).trans S5.out.2.2⟩
      have H6 : Hid (Below w2.drew.heap.size w2.drew w6) := H5.out.trans (b6.mono H5.out.size)
      have HPART : Hid (Cells w6 (some ⟨g, Y * C * 6, none⟩) C (rowOf C Y xs)) := by
        have h := cells_part (cells_of R6.out) (s := Y * C) (m := C) (by have := HO5.out; omega)
        rw [Nat.zero_add] at h
        exact h
      clear b6
      refine hK _ _ ?_ ?_
      · exact S6.out
      clear hK K
      (try simp only [Act.put, List.setIfInBounds_toArray, List.set_cons_zero, List.set_cons_succ])
      repeat (first | (refine bits_take (v := ?_) (by rfl) ?_ ?_; rotate_left; (· intro w' hS; obtain ⟨s0, s1, s2⟩ := hS; go_simp; (try (go_ints; try go_simp)); with_reducible rfl); (try simp only [Act.put, List.setIfInBounds_toArray, List.set_cons_zero, List.set_cons_succ])) | (refine bits_skip (by rfl) ?_; (try simp only [Act.put, List.setIfInBounds_toArray, List.set_cons_zero, List.set_cons_succ])))
      refine bits_eff (by rfl) (fun K hK => ?_)
      go_simp
      (try go_ints)
      refine (HTURN.out _ C C (rowOf C Y xs) w6 D6.out HPART.out).mono ?_
      rintro e w7 ⟨v7, rfl, r7, b7⟩
      have D7 : Hid (Below w.heap.size w w7) := D6.out.trans (b7.mono D6.out.size)
      have R7 := Lib.hid (R6.out.below b7)
      have z7 : w.heap.size + 3 ≤ w7.heap.size := Nat.le_trans z6 b7.size
      have S7 : Hid (w7.cell? ⟨w.heap.size, 0, none⟩ = some (.int .i64 C) ∧ w7.cell? ⟨w.heap.size, 1, none⟩ = some (.int .i64 R) ∧ w7.cell? ⟨w.heap.size, 2, none⟩ = some (.slice (some ⟨g, 0, none⟩) xs.length vc)) := ⟨(b7.cell (p := ⟨w.heap.size, 0, none⟩) (by show w.heap.size < w6.heap.size; omega)).trans S6.out.1, (b7.cell (p := ⟨w.heap.size, 1, none⟩) (by show w.heap.size < w6.heap.size; omega)).trans S6.out.2.1, (b7.cell (p := ⟨w.heap.size, 2, none⟩) (by show w.heap.size < w6.heap.size; omega)).trans S6.out.2.2⟩
      have H7 : Hid (Below w2.drew.heap.size w2.drew w7) := H6.out.trans (b7.mono H6.out.size)
      obtain ⟨ta, tc, rfl, tl⟩ := r7.cells
      have TL := Lib.hid tl
      clear b7 r7 tl
      refine hK _ _ ?_ ?_
      · exact S7.out
      clear hK K
      (try simp only [Act.put, List.setIfInBounds_toArray, List.set_cons_zero, List.set_cons_succ])
      repeat (first | (refine bits_take (v := ?_) (by rfl) ?_ ?_; rotate_left; (· intro w' hS; obtain ⟨s0, s1, s2⟩ := hS; go_simp; (try (go_ints; try go_simp)); with_reducible rfl); (try simp only [Act.put, List.setIfInBounds_toArray, List.set_cons_zero, List.set_cons_succ])) | (refine bits_skip (by rfl) ?_; (try simp only [Act.put, List.setIfInBounds_toArray, List.set_cons_zero, List.set_cons_succ])))
      refine bits_tail (by rfl) (fun K hK => ?_)
      refine gpart_op _ _ rfl (Y * C) C rfl rfl R7.out TL.out ?_ ?_ ?_ fun w8 r8 k8 => ?_
      · rw [HTL.out]; exact (Nat.min_self C).symm
      · have := HO5.out; omega
      · exact fun _ => rfl
      refine hK _ _ ?_
      clear hK K
      (try simp only [Act.put])
      repeat (first | (refine bits_take (v := ?_) (by rfl) ?_ ?_; rotate_left; (· intro w' hS; obtain ⟨s0, s1, s2⟩ := hS; go_simp; (try (go_ints; try go_simp)); with_reducible rfl); (try simp only [Act.put, List.setIfInBounds_toArray, List.set_cons_zero, List.set_cons_succ])) | (refine bits_skip (by rfl) ?_; (try simp only [Act.put, List.setIfInBounds_toArray, List.set_cons_zero, List.set_cons_succ])))
      refine bits_nil ?_
      have G8 := Lib.hid ((G4.out.below H7.out G4.out.lt).grown k8 (by intro e; injection e with e; omega))
      have A8 := Lib.hid ((A4.out.below H7.out A4.out.lt).grown k8 (by intro e; injection e with e; omega))
      have R8 : Hid (CRow w8 w0.heap.size (.slice (some ⟨g, 0, none⟩) xs.length vc) (setRow xs C Y (tf (rowOf C Y xs)))) := by
        rw [List.take_of_length_le (l := tf (rowOf C Y xs)) (by rw [HTL.out]; exact Nat.le_refl _)] at r8
        exact r8
      have B8 : Hid (Below w.heap.size w w8) := below_grown D7.out k8 (by omega) D7.out.size
      clear r8 k8
      have g0 := Own.cell G8.out 0
      have g1 := Own.cell G8.out 1
      have g2 := Own.cell G8.out 2
      simp only [List.getElem?_toArray, List.getElem?_cons_zero, List.getElem?_cons_succ] at g0 g1 g2
      have hA := A8.out
      go_wp2_with (first
        | (refine gvstore_list rfl _ _ rfl (c := C) (r := R) (sa := some ⟨g, 0, none⟩) (sn := xs.length) (sc := vc) rfl rfl hA ?_; intro w9 o9 k9; have O9 := Lib.hid o9; have B9 : Hid (Below w.heap.size w w9) := below_grown B8.out k9 (by omega) B8.out.size; have R9 : Hid (CRow w9 w0.heap.size (.slice (some ⟨g, 0, none⟩) xs.length vc) (setRow xs C Y (tf (rowOf C Y xs)))) := crow_other R8.out k9 (by omega); clear o9 k9 hA)
        | go_in)
      clear g0 g1 g2
      have g0 := Own.cell O9.out 0
      have g1 := Own.cell O9.out 1
      have g2 := Own.cell O9.out 2
      simp only [List.getElem?_toArray, List.getElem?_cons_zero, List.getElem?_cons_succ] at g0 g1 g2
      (try simp only [Exit.inBlock, Exit.then])
      refine bodyPost_ret (v := .agg #[.int .i64 C, .int .i64 R, .slice (some ⟨g, 0, none⟩) xs.length vc]) (by simp [results, Tryd.results72, go_sem, g0, g1, g2]) rfl ?_
      rw [HOI.out.1, HOI.out.2, HF.out]
      exact ⟨_, rfl, R9.out.up B0.out.size, B9.out⟩
    · have HF : Hid (turnP C R xs y f b tf = xs) := by rw [HTP.out, if_neg hy]; rfl
      have hA := A2.out
      go_upto_region 2 with fail
      go_cut [26] (fun v wc => v = .bool false ∧ wc = w2)
      case first =>
        cases hd0 : decide ((0 : Int) ≤ y) with
        | false =>
          go_wp2_with fail
          go_meet
          exact ⟨rfl, rfl⟩
        | true =>
          have hd1 : decide (y < (R : Int)) = false := decide_eq_false (fun h => hy ⟨of_decide_eq_true hd0, h⟩)
          go_wp2_with fail
          go_meet
          exact ⟨rfl, rfl⟩
      case rest =>
        obtain ⟨rfl, rfl⟩ := hcut
        go_wp2_with (first
          | (refine gvstore_list rfl _ _ rfl (c := C) (r := R) (sa := some ⟨g, 0, none⟩) (sn := xs.length) (sc := vc) rfl rfl hA ?_; intro w9 o9 k9; have O9 := Lib.hid o9; have B9 : Hid (Below w.heap.size w w9) := below_grown B2.out k9 (by omega) B2.out.size; have R9 : Hid (CRow w9 w0.heap.size (.slice (some ⟨g, 0, none⟩) xs.length vc) xs) := crow_other R2.out k9 (by omega); clear o9 k9 hA)
          | go_in)
        clear g0 g1 g2
        have g0 := Own.cell O9.out 0
        have g1 := Own.cell O9.out 1
        have g2 := Own.cell O9.out 2
        simp only [List.getElem?_toArray, List.getElem?_cons_zero, List.getElem?_cons_succ] at g0 g1 g2
        (try simp only [Exit.inBlock, Exit.then])
        refine bodyPost_ret (v := .agg #[.int .i64 C, .int .i64 R, .slice (some ⟨g, 0, none⟩) xs.length vc]) (by simp [results, Tryd.results72, go_sem, g0, g1, g2]) rfl ?_
        rw [HOI.out.1, HOI.out.2, HF.out]
        exact ⟨_, rfl, R9.out.up B0.out.size, B9.out⟩
end Go.Proofs.YtlhcehealjdbdaaDoor
/- The chapter's example. -/
namespace Go.Proofs.YtlhcehealjdbdaaDoor
open Go.RowKit
set_option linter.unusedSimpArgs false
set_option linter.unusedVariables false
attribute [local go_sem] alloc_drewN setCell_drewN


def rowL : List Glyph := [blank 0, blank 0, blank 0, blank 0]
def rowW : List Glyph := [blank 0, ⟨19968, 1, 0, 0, 0, 0⟩, ⟨0, 2, 0, 0, 0, 0⟩, blank 0]
def rowN : List Glyph := [blank 0, blank 0, ⟨97, 0, 0, 0, 0, 0⟩, blank 0]
theorem rowL_ok : RowOk rowL := ⟨by decide, by decide, fun i hi => by
  rcases (by simp [rowL] at hi; omega : i = 0 ∨ i = 1 ∨ i = 2 ∨ i = 3) with rfl | rfl | rfl | rfl <;> (unfold CellOk; decide +kernel)⟩
theorem rowW_ok : RowOk rowW := ⟨by decide, by decide, fun i hi => by
  rcases (by simp [rowW] at hi; omega : i = 0 ∨ i = 1 ∨ i = 2 ∨ i = 3) with rfl | rfl | rfl | rfl <;> (unfold CellOk; decide +kernel)⟩
theorem wide1 : width 19968 = 2 := by decide +kernel
theorem wide2 : width 97 = 1 := by decide +kernel
theorem pen0 : penMay 0 0 = true := by decide +kernel
theorem fix1 : putP rowL 1 19968 0 0 0 0 = rowW := by
  unfold putP
  rw [row_yes rowL_ok, pen0, wide1]
  decide +kernel
theorem fix2 : putP rowW 2 97 0 0 0 0 = rowN := by
  unfold putP
  rw [row_yes rowW_ok, pen0, wide2]
  decide +kernel
theorem fix3 : putP rowL 3 19968 0 0 0 0 = rowL := by
  unfold putP
  rw [row_yes rowL_ok, pen0, wide1]
  decide +kernel
theorem crow_new (w : World) (xs : List Glyph) (n : Nat) (hn : xs.length = n) (hm : n ≤ 1000) : CRow (w.alloc (.cells (flat xs).toArray 28)) w.heap.size (.slice (some ⟨w.heap.size, 0, none⟩) n n) xs := by
  subst hn
  refine ⟨flat_len xs, .inr ⟨w.heap.size, xs.length, _, rfl, Nat.le_refl _, heap_alloc_new w _, Nat.le_refl _, by unfold maxLen; omega, by simp [flat_len], ?_⟩⟩
  show List.take (xs.length * 6) (flat xs) = flat xs
  exact List.take_of_length_le (by rw [flat_len]; exact Nat.le_refl _)
set_option maxRecDepth 10000 in
set_option maxHeartbeats 2000000 in
theorem fixed_any (w : World) (ht : Tabs w) : Calls Tryd.prog 14 #[] w (RVal (.bool true) w) := by
  have HT := Lib.hid ht
  clear ht
  go_enter Tryd.func14, Tryd.ntmps14
  go_wp2_with fail
  refine (blank_any 0 0 0 0 _).mono ?_
  rintro e w1 ⟨rfl, b1⟩
  have B1 : Hid (Below w.heap.size w w1) := b1
  clear b1
  go_wp2_with fail
  refine (blank_any 0 0 0 0 _).mono ?_
  rintro e w2 ⟨rfl, b2⟩
  have B2 : Hid (Below w.heap.size w w2) := B1.out.trans (b2.mono B1.out.size)
  clear b2
  go_wp2_with fail
  refine (blank_any 0 0 0 0 _).mono ?_
  rintro e w3 ⟨rfl, b3⟩
  have B3 : Hid (Below w.heap.size w w3) := B2.out.trans (b3.mono B2.out.size)
  clear b3
  go_wp2_with fail
  refine (blank_any 0 0 0 0 _).mono ?_
  rintro e w4 ⟨rfl, b4⟩
  have B4 : Hid (Below w.heap.size w w4) := B3.out.trans (b4.mono B3.out.size)
  clear b4
  go_wp2_with fail
  have R5 : Hid (CRow (w4.alloc (.cells (flat rowL).toArray 28)) w4.heap.size (.slice (some ⟨w4.heap.size, 0, none⟩) 4 4) rowL) := crow_new w4 rowL 4 rfl (by decide)
  have B5 : Hid (Below w.heap.size w (w4.alloc (.cells (flat rowL).toArray 28))) := B4.out.alloc B4.out.size _
  change Calls _ _ _ (w4.alloc (.cells (flat rowL).toArray 28)) _
  generalize w4.alloc (.cells (flat rowL).toArray 28) = w5 at R5 B5 ⊢
  obtain ⟨gl, hgl⟩ : ∃ gl, w4.heap.size = gl := ⟨_, rfl⟩
  rw [hgl] at R5 ⊢
  clear hgl
  have H6 := put_any (some ⟨gl, 0, none⟩) 4 4 1 19968 0 0 0 0 rowL w5 (cells_of R5.out) (HT.out.below B5.out)
  rw [fix1] at H6
  refine H6.mono ?_
  rintro e w6 ⟨v6, rfl, r6, b6⟩
  obtain ⟨ga, gc, hv6, _⟩ := r6.cells
  obtain rfl : v6 = .slice ga 4 gc := hv6
  have B6 : Hid (Below w.heap.size w w6) := B5.out.trans (b6.mono B5.out.size)
  have R6 : Hid (CRow w6 w5.heap.size (.slice ga 4 gc) rowW) := r6
  have L6 := Lib.hid (R5.out.below b6)
  clear H6 r6 b6
  go_wp2_with fail
  have H7 := put_any ga 4 gc 2 97 0 0 0 0 rowW w6 (cells_of R6.out) (HT.out.below B6.out)
  rw [fix2] at H7
  refine H7.mono ?_
  rintro e w7 ⟨v7, rfl, r7, b7⟩
  obtain ⟨na, nc, hv7, _⟩ := r7.cells
  obtain rfl : v7 = .slice na 4 nc := hv7
  have B7 : Hid (Below w.heap.size w w7) := B6.out.trans (b7.mono B6.out.size)
  have N7 : Hid (CRow w7 w6.heap.size (.slice na 4 nc) rowN) := r7
  have W7 := Lib.hid (R6.out.below b7)
  have L7 := Lib.hid (L6.out.below b7)
  clear H7 r7 b7
  obtain ⟨gw, rfl⟩ := crow_addr W7.out (by decide)
  obtain ⟨gn, rfl⟩ := crow_addr N7.out (by decide)
  obtain ⟨_, a1, _⟩ := (crow_at W7.out (k := 1) (by decide)).1
  obtain ⟨_, a2, _⟩ := (crow_at W7.out (k := 2) (by decide)).1
  obtain ⟨c0, c1, c2, c3, c4, c5⟩ := (crow_at N7.out (k := 1) (by decide)).1
  obtain ⟨d0, _⟩ := (crow_at N7.out (k := 2) (by decide)).1
  obtain ⟨l0, l1, l2, l3, l4, l5⟩ := (crow_at L7.out (k := 1) (by decide)).1
  simp only [rowW, rowN, rowL, blank, List.getD_cons_succ, List.getD_cons_zero, Nat.reduceMul, Nat.reduceAdd] at a1 a2 c0 c1 c2 c3 c4 c5 d0 l0 l1 l2 l3 l4 l5
  go_wp2_with fail
  have B7D : Hid (Below w.heap.size w w7.drew) := below_drewN B7.out 1
  have L7D : Hid (CRow w7.drew gl (.slice (some ⟨gl, 0, none⟩) 4 4) rowL) := L7.out
  refine wp_region_bits [(0, true), (1, true), (2, true), (3, true), (4, true), (5, true), (6, true), (7, true), (8, true), (9, true), (10, true), (11, true), (12, true), (13, true), (14, true), (15, true), (16, true), (17, true), (18, true), (19, true), (20, true), (21, true), (22, true), (23, true), (24, true), (25, true), (26, true), (27, true), (28, true), (29, true), (30, true), (31, true), (32, true), (33, true), (34, true), (35, true), (36, true), (37, true), (38, true), (39, true), (40, true), (42, true), (41, false), (43, false), (44, true), (45, true)] [] (by kernel_rfl) (by kernel_rfl) (fun c a d v w h => by cases d <;> exact h) ?_
  simp only [bits_, bitOf, List.getElem?_cons_zero, List.getElem?_cons_succ, List.contains_nil]
  repeat (first | (refine bits_take (v := ?_) (by rfl) ?_ ?_; rotate_left; (· intro w' hS; go_simp; (repeat (rw [hS.at_]; rotate_left; (· go_simp); go_simp)); (try (go_ints; try go_simp)); with_reducible rfl); (try simp only [Act.put, List.setIfInBounds_toArray, List.set_cons_zero, List.set_cons_succ])) | (refine bits_skip (by rfl) ?_; (try simp only [Act.put, List.setIfInBounds_toArray, List.set_cons_zero, List.set_cons_succ])))
  refine bits_eff (by rfl) (fun K hK => ?_)
  go_simp
  (try go_ints)
  have H8 := put_any (some ⟨gl, 0, none⟩) 4 4 3 19968 0 0 0 0 rowL w7.drew (cells_of L7D.out) (HT.out.below B7D.out)
  rw [fix3] at H8
  refine H8.mono ?_
  rintro e w8 ⟨v8, rfl, r8, b8⟩
  obtain ⟨pa, pc, hv8, _⟩ := r8.cells
  obtain rfl : v8 = .slice pa 4 pc := hv8
  have B8 : Hid (Below w.heap.size w w8) := B7D.out.trans (b8.mono B7D.out.size)
  have R8 : Hid (CRow w8 w7.drew.heap.size (.slice pa 4 pc) rowL) := r8
  have L8 := Lib.hid (L7D.out.below b8)
  clear H8 r8
  refine hK _ _ ?_ ?_
  · repeat (first | (with_reducible (first | exact Keep.refl _ | refine Keep.left _ ?_ | refine Keep.drew ?_ | refine Keep.drewN ?_ _ | refine Keep.alloc ?_ _)) | (refine Keep.below ?_ (by with_reducible assumption)))
  clear hK K
  (try simp only [Act.put, List.setIfInBounds_toArray, List.set_cons_zero, List.set_cons_succ])
  repeat (first | (refine bits_take (v := ?_) (by rfl) ?_ ?_; rotate_left; (· intro w' hS; go_simp; (repeat (rw [hS.at_]; rotate_left; (· go_simp); go_simp)); (try (go_ints; try go_simp)); with_reducible rfl); (try simp only [Act.put, List.setIfInBounds_toArray, List.set_cons_zero, List.set_cons_succ])) | (refine bits_skip (by rfl) ?_; (try simp only [Act.put, List.setIfInBounds_toArray, List.set_cons_zero, List.set_cons_succ])))
  refine bits_eff (by rfl) (fun K hK => ?_)
  go_simp
  (try go_ints)
  refine (gsame_any pa (some ⟨gl, 0, none⟩) 4 pc 4 4 rowL rowL _ (cells_of R8.out) (cells_of L8.out)).mono ?_
  rintro e w9 ⟨rfl, q9, rfl⟩
  refine hK _ _ ?_ ?_
  · repeat (first | (with_reducible (first | exact Keep.refl _ | refine Keep.left _ ?_ | refine Keep.drew ?_ | refine Keep.drewN ?_ _ | refine Keep.alloc ?_ _)) | (refine Keep.below ?_ (by with_reducible assumption)))
  clear hK K
  (try simp only [Act.put, List.setIfInBounds_toArray, List.set_cons_zero, List.set_cons_succ])
  repeat (first | (refine bits_take (v := ?_) (by rfl) ?_ ?_; rotate_left; (· intro w' hS; go_simp; (repeat (rw [hS.at_]; rotate_left; (· go_simp); go_simp)); (try (go_ints; try go_simp)); with_reducible rfl); (try simp only [Act.put, List.setIfInBounds_toArray, List.set_cons_zero, List.set_cons_succ])) | (refine bits_skip (by rfl) ?_; (try simp only [Act.put, List.setIfInBounds_toArray, List.set_cons_zero, List.set_cons_succ])))
  refine bits_nil ?_
  go_wp2_with fail
  go_ret
  exact ⟨rfl, below_drewN B8.out _⟩
end Go.Proofs.YtlhcehealjdbdaaDoor
