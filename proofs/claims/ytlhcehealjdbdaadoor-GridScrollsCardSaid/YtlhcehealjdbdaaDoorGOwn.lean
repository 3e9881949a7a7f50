/- A grid's copy to work on; one of its rows. -/
import Derived.Test.YtlhcehealjdbdaaDoorGMay
import Derived.Deep.DeepCutAuto
namespace Go.Proofs.YtlhcehealjdbdaaDoor
open Go.RowKit
set_option linter.unusedSimpArgs false
set_option linter.unusedVariables false
attribute [local go_sem] alloc_drewN setCell_drewN


def OwnG (ok : Bool) (c r : Int) (xs : List Glyph) (w : World) (e : Ending) (w' : World) : Prop :=
  if ok = true then ∃ v', e = .returned (.tuple #[.agg #[.int .i64 c, .int .i64 r, v'], .bool true]) ∧ CRow w' w.heap.size v' xs ∧ Below w.heap.size w w'
  else e = .returned (.tuple #[.agg #[.int .i64 0, .int .i64 0, .slice none 0 0], .bool false]) ∧ Below w.heap.size w w'
theorem crow_other {w w' : World} {base n c b : Nat} {a : Option Addr} {xs : List Glyph} (h : CRow w base (.slice a n c) xs) (k : w.grownBy w' (some b)) (hb : b < base) : CRow w' base (.slice a n c) xs := World.ownsRow.kept h k (.inr (fun e => by
  have := (World.ownsRow.lt h b e).1
  omega))
set_option maxRecDepth 10000 in
set_option maxHeartbeats 2000000 in
theorem gown_any (c r f b d l : Int) (a : Option Addr) (n cp : Nat) (xs : List Glyph) (w : World) (hl : Cells w a n xs) (hcp : n ≤ cp) (ht : Tabs w) : Calls Tryd.prog 60 #[.agg #[.int .i64 c, .int .i64 r, .slice a n cp], .agg #[.int .u32 f, .int .u32 b, .int .u8 d, .int .u16 l]] w (OwnG (gridMay c r xs && penMay f b) c r xs w) := by
  obtain rfl := hl.1
  have HL := Lib.hid hl
  have HT := Lib.hid ht
  clear hl ht
  obtain ⟨mb, hmb⟩ : ∃ mb, gridMay c r xs = mb := ⟨_, rfl⟩
  obtain ⟨pb, hpb⟩ : ∃ pb, penMay f b = pb := ⟨_, rfl⟩
  rw [hmb, hpb]
  have HMB := Lib.hid hmb
  have HPB := Lib.hid hpb
  have hn8 : mb = true → xs.length ≤ 1920 := fun e => by
    subst e
    obtain ⟨C, R, _, _, h⟩ := gmay_iff.1 hmb
    rw [h.2.2.2.2.1]
    exact mul_bound h.2.1 h.2.2.2.1
  clear hmb hpb
  have B0 : Hid (Below w.heap.size w (((w.alloc (.cells #[.int .i64 c, .int .i64 r, .slice a xs.length cp] 49)).alloc (.cells #[.int .u32 f, .int .u32 b, .int .u8 d, .int .u16 l] 26)).alloc (.cells #[.int .i64 0, .int .i64 0, .slice none 0 0] 49))) := (((Below.refl _ _).alloc (Nat.le_refl _) _).alloc (by simp) _).alloc (by simp; omega) _
  have G0 : Hid (Own (((w.alloc (.cells #[.int .i64 c, .int .i64 r, .slice a xs.length cp] 49)).alloc (.cells #[.int .u32 f, .int .u32 b, .int .u8 d, .int .u16 l] 26)).alloc (.cells #[.int .i64 0, .int .i64 0, .slice none 0 0] 49)) w.heap.size 49 #[.int .i64 c, .int .i64 r, .slice a xs.length cp]) := ((Own.new w 49 _).alloc _).alloc _
  have P0' : Own (((w.alloc (.cells #[.int .i64 c, .int .i64 r, .slice a xs.length cp] 49)).alloc (.cells #[.int .u32 f, .int .u32 b, .int .u8 d, .int .u16 l] 26)).alloc (.cells #[.int .i64 0, .int .i64 0, .slice none 0 0] 49)) (w.heap.size + 1) 26 #[.int .u32 f, .int .u32 b, .int .u8 d, .int .u16 l] := by
    have h := (Own.new (w.alloc (.cells #[.int .i64 c, .int .i64 r, .slice a xs.length cp] 49)) 26 #[.int .u32 f, .int .u32 b, .int .u8 d, .int .u16 l]).alloc (.cells #[.int .i64 0, .int .i64 0, .slice none 0 0] 49)
    simpa using h
  have A0' : Own (((w.alloc (.cells #[.int .i64 c, .int .i64 r, .slice a xs.length cp] 49)).alloc (.cells #[.int .u32 f, .int .u32 b, .int .u8 d, .int .u16 l] 26)).alloc (.cells #[.int .i64 0, .int .i64 0, .slice none 0 0] 49)) (w.heap.size + 2) 49 #[.int .i64 0, .int .i64 0, .slice none 0 0] := by
    have h := Own.new ((w.alloc (.cells #[.int .i64 c, .int .i64 r, .slice a xs.length cp] 49)).alloc (.cells #[.int .u32 f, .int .u32 b, .int .u8 d, .int .u16 l] 26)) 49 #[.int .i64 0, .int .i64 0, .slice none 0 0]
    simpa using h
  have P0 := Lib.hid P0'
  have A0 := Lib.hid A0'
  have hz0 : w.heap.size + 3 ≤ (((w.alloc (.cells #[.int .i64 c, .int .i64 r, .slice a xs.length cp] 49)).alloc (.cells #[.int .u32 f, .int .u32 b, .int .u8 d, .int .u16 l] 26)).alloc (.cells #[.int .i64 0, .int .i64 0, .slice none 0 0] 49)).heap.size := by simp
  clear P0' A0'
  have g0 := Own.cell G0.out 0
  have g1 := Own.cell G0.out 1
  have g2 := Own.cell G0.out 2
  simp only [List.getElem?_toArray, List.getElem?_cons_zero, List.getElem?_cons_succ] at g0 g1 g2
  go_enter Tryd.func60, Tryd.ntmps60
  go_wp2_with fail
  refine (RVal.as (gmay_any c r a xs.length cp xs _ (HL.out.below B0.out) hcp (HT.out.below B0.out)) (congrArg Value.bool HMB.out)).mono ?_
  generalize ((w.alloc (.cells #[.int .i64 c, .int .i64 r, .slice a xs.length cp] 49)).alloc (.cells #[.int .u32 f, .int .u32 b, .int .u8 d, .int .u16 l] 26)).alloc (.cells #[.int .i64 0, .int .i64 0, .slice none 0 0] 49) = w0 at B0 G0 P0 A0 hz0 g0 g1 g2 ⊢
  rintro e w1 ⟨rfl, b1⟩
  have B1 : Hid (Below w.heap.size w w1) := B0.out.trans (b1.mono B0.out.size)
  have G1 := Lib.hid (G0.out.below b1 (by omega))
  have P1 := Lib.hid (P0.out.below b1 (by omega))
  have A1 := Lib.hid (A0.out.below b1 (by omega))
  have hz1 : w.heap.size + 3 ≤ w1.heap.size := Nat.le_trans hz0 b1.size
  clear b1 g0 g1 g2
  cases mb with
  | false =>
    have hA := A1.out
    go_wp2_with (first
      | (refine gvstore_list rfl _ _ rfl (c := 0) (r := 0) (sa := none) (sn := 0) (sc := 0) rfl rfl hA ?_; intro w2 o2 k2; have O2 := Lib.hid o2; have B2 : Hid (Below w.heap.size w w2) := below_grown B1.out k2 (by omega) B1.out.size; clear o2 k2 hA)
      | go_in)
    have g0 := Own.cell O2.out 0
    have g1 := Own.cell O2.out 1
    have g2 := Own.cell O2.out 2
    simp only [List.getElem?_toArray, List.getElem?_cons_zero, List.getElem?_cons_succ] at g0 g1 g2
    (try simp only [Exit.inBlock, Exit.then])
    refine bodyPost_ret (v := .tuple #[.agg #[.int .i64 0, .int .i64 0, .slice none 0 0], .bool false]) (by simp [results, Tryd.results60, go_sem, g0, g1, g2]) rfl ?_
    unfold OwnG
    rw [Bool.false_and, if_neg (by decide)]
    exact ⟨rfl, B2.out⟩
  | true =>
    have e0 := Own.cell P1.out 0
    have e1 := Own.cell P1.out 1
    have e2 := Own.cell P1.out 2
    have e3 := Own.cell P1.out 3
    simp only [List.getElem?_toArray, List.getElem?_cons_zero, List.getElem?_cons_succ] at e0 e1 e2 e3
    go_wp2_with fail
    refine (RVal.as (gpen_any f b d l _) (congrArg Value.bool HPB.out)).mono ?_
    rintro e w2 ⟨rfl, b2⟩
    have B2 : Hid (Below w.heap.size w w2) := B1.out.trans (b2.mono B1.out.size)
    have G2 := Lib.hid (G1.out.below b2 (by omega))
    have P2 := Lib.hid (P1.out.below b2 (by omega))
    have A2 := Lib.hid (A1.out.below b2 (by omega))
    have hz2 : w.heap.size + 3 ≤ w2.heap.size := Nat.le_trans hz1 b2.size
    clear b2 e0 e1 e2 e3
    cases pb with
    | false =>
      have hA := A2.out
      go_wp2_with (first
        | (refine gvstore_list rfl _ _ rfl (c := 0) (r := 0) (sa := none) (sn := 0) (sc := 0) rfl rfl hA ?_; intro w3 o3 k3; have O3 := Lib.hid o3; have B3 : Hid (Below w.heap.size w w3) := below_grown B2.out k3 (by omega) B2.out.size; clear o3 k3 hA)
        | go_in)
      have g0 := Own.cell O3.out 0
      have g1 := Own.cell O3.out 1
      have g2 := Own.cell O3.out 2
      simp only [List.getElem?_toArray, List.getElem?_cons_zero, List.getElem?_cons_succ] at g0 g1 g2
      (try simp only [Exit.inBlock, Exit.then])
      refine bodyPost_ret (v := .tuple #[.agg #[.int .i64 0, .int .i64 0, .slice none 0 0], .bool false]) (by simp [results, Tryd.results60, go_sem, g0, g1, g2]) rfl ?_
      unfold OwnG
      rw [Bool.and_false, if_neg (by decide)]
      exact ⟨rfl, B3.out⟩
    | true =>
      have hn := hn8 (by first | rfl | trivial)
      have g0 := Own.cell G2.out 0
      have g1 := Own.cell G2.out 1
      have g2 := Own.cell G2.out 2
      simp only [List.getElem?_toArray, List.getElem?_cons_zero, List.getElem?_cons_succ] at g0 g1 g2
      go_wp2_with fail
      refine (gclone_any a xs.length cp xs _ (HL.out.below B2.out) (by omega)).mono ?_
      rintro e w3 ⟨v3, rfl, r3, b3⟩
      have B3 : Hid (Below w.heap.size w w3) := B2.out.trans (b3.mono B2.out.size)
      have G3 := Lib.hid (G2.out.below b3 (by omega))
      have P3 := Lib.hid (P2.out.below b3 (by omega))
      have A3 := Lib.hid (A2.out.below b3 (by omega))
      have hz3 : w.heap.size + 3 ≤ w3.heap.size := Nat.le_trans hz2 b3.size
      obtain ⟨va, vc, rfl, _⟩ := r3.cells
      have R3 : Hid (CRow w3 w2.heap.size (.slice va xs.length vc) xs) := r3
      clear r3 b3 g0 g1 g2
      have hG := G3.out
      go_upto_region 4 with (first
        | (refine gcstore_list rfl _ _ rfl (sa := va) (sn := xs.length) (sc := vc) rfl rfl hG ?_; intro w4 o4 k4; have G4 := Lib.hid o4; have B4 : Hid (Below w.heap.size w w4) := below_grown B3.out k4 (by omega) B3.out.size; have A4 := Lib.hid (A3.out.grown k4 (by intro e; injection e with e; omega)); have R4 : Hid (CRow w4 w2.heap.size (.slice va xs.length vc) xs) := crow_other R3.out k4 (by omega); clear o4 k4 hG)
        | go_in)
      (try simp only [Act.put])
      have g0 := Own.cell G4.out 0
      have g1 := Own.cell G4.out 1
      have g2 := Own.cell G4.out 2
      simp only [List.getElem?_toArray, List.getElem?_cons_zero, List.getElem?_cons_succ] at g0 g1 g2
      have hA := A4.out
      go_wp2_with (first
        | (refine gvstore_list rfl _ _ rfl (c := c) (r := r) (sa := va) (sn := xs.length) (sc := vc) rfl rfl hA ?_; intro w5 o5 k5; have O5 := Lib.hid o5; have B5 : Hid (Below w.heap.size w w5) := below_grown B4.out k5 (by omega) B4.out.size; have R5 : Hid (CRow w5 w2.heap.size (.slice va xs.length vc) xs) := crow_other R4.out k5 (by omega); clear o5 k5 hA)
        | go_in)
      clear g0 g1 g2
      have g0 := Own.cell O5.out 0
      have g1 := Own.cell O5.out 1
      have g2 := Own.cell O5.out 2
      simp only [List.getElem?_toArray, List.getElem?_cons_zero, List.getElem?_cons_succ] at g0 g1 g2
      (try simp only [Exit.inBlock, Exit.then])
      refine bodyPost_ret (v := .tuple #[.agg #[.int .i64 c, .int .i64 r, .slice va xs.length vc], .bool true]) (by simp [results, Tryd.results60, go_sem, g0, g1, g2]) rfl ?_
      unfold OwnG
      rw [Bool.true_and, if_pos rfl]
      exact ⟨_, rfl, R5.out.up (by have := B2.out.size; omega), B5.out⟩
/-- One of its rows, new. -/
noncomputable def growP (c r : Int) (xs : List Glyph) (y : Int) : List Glyph := if gridMay c r xs = true ∧ 0 ≤ y ∧ y < r then rowOf c.toNat y.toNat xs else []
set_option maxRecDepth 10000 in
set_option maxHeartbeats 2000000 in
theorem growfn_any (c r y : Int) (a : Option Addr) (n cp : Nat) (xs : List Glyph) (w : World) (hl : Cells w a n xs) (hcp : n ≤ cp) (ht : Tabs w) : Calls Tryd.prog 35 #[.agg #[.int .i64 c, .int .i64 r, .slice a n cp], .int .i64 y] w (GPost (growP c r xs y) w) := by
  obtain rfl := hl.1
  have HL := Lib.hid hl
  have HT := Lib.hid ht
  clear hl ht
  obtain ⟨mb, hmb⟩ : ∃ mb, gridMay c r xs = mb := ⟨_, rfl⟩
  have HMB := Lib.hid hmb
  have B0 : Hid (Below w.heap.size w (w.alloc (.cells #[.int .i64 c, .int .i64 r, .slice a xs.length cp] 49))) := (Below.refl _ _).alloc (Nat.le_refl _) _
  have G0 : Hid (Own (w.alloc (.cells #[.int .i64 c, .int .i64 r, .slice a xs.length cp] 49)) w.heap.size 49 #[.int .i64 c, .int .i64 r, .slice a xs.length cp]) := Own.new w 49 _
  have hz0 : w.heap.size < (w.alloc (.cells #[.int .i64 c, .int .i64 r, .slice a xs.length cp] 49)).heap.size := by simp
  have g0 := Own.cell G0.out 0
  have g1 := Own.cell G0.out 1
  have g2 := Own.cell G0.out 2
  simp only [List.getElem?_toArray, List.getElem?_cons_zero, List.getElem?_cons_succ] at g0 g1 g2
  go_enter Tryd.func35, Tryd.ntmps35
  go_wp2_with fail
  refine (RVal.as (gmay_any c r a xs.length cp xs _ (HL.out.below B0.out) hcp (HT.out.below B0.out)) (congrArg Value.bool HMB.out)).mono ?_
  generalize w.alloc (.cells #[.int .i64 c, .int .i64 r, .slice a xs.length cp] 49) = w0 at B0 G0 hz0 g0 g1 g2 ⊢
  rintro e w1 ⟨rfl, b1⟩
  have B1 : Hid (Below w.heap.size w w1) := B0.out.trans (b1.mono B0.out.size)
  have G1 := Lib.hid (G0.out.below b1 hz0)
  clear b1 g0 g1 g2
  have g0 := Own.cell G1.out 0
  have g1 := Own.cell G1.out 1
  have g2 := Own.cell G1.out 2
  simp only [List.getElem?_toArray, List.getElem?_cons_zero, List.getElem?_cons_succ] at g0 g1 g2
  cases mb with
  | false =>
    have HF : Hid (growP c r xs y = []) := if_neg (fun h => by rw [HMB.out] at h; cases h.1)
    clear hmb
    go_wp2_with fail
    go_ret
    exact ⟨_, rfl, by rw [HF.out]; exact CRow.nil _ _, B1.out⟩
  | true =>
    cases hy0 : decide (y < 0) with
    | true =>
      have HF : Hid (growP c r xs y = []) := if_neg (fun h => by have := of_decide_eq_true hy0; omega)
      clear hmb
      go_wp2_with fail
      go_ret
      exact ⟨_, rfl, by rw [HF.out]; exact CRow.nil _ _, B1.out⟩
    | false =>
      cases hy1 : decide (r ≤ y) with
      | true =>
        have HF : Hid (growP c r xs y = []) := if_neg (fun h => by have := of_decide_eq_true hy1; omega)
        clear hmb
        go_wp2_with fail
        go_ret
        exact ⟨_, rfl, by rw [HF.out]; exact CRow.nil _ _, B1.out⟩
      | false =>
        have q0 := of_decide_eq_false hy0
        have q1 := of_decide_eq_false hy1
        obtain ⟨C, R, rfl, rfl, hok⟩ := gmay_iff.1 hmb
        obtain ⟨Y, rfl⟩ : ∃ Y : Nat, y = Y := ⟨y.toNat, by omega⟩
        obtain ⟨o1, o2, o3, o4, o5, _⟩ := hok
        have hYR : Y < R := by omega
        have HF : Hid (growP C R xs Y = rowOf C Y xs) := by unfold growP; rw [if_pos ⟨HMB.out, by omega, by omega⟩, Int.toNat_natCast, Int.toNat_natCast]; rfl
        have hmr := mul_row (c := C) hYR
        have hpos : 0 < C * R := Nat.mul_pos (by omega) (by omega)
        obtain ⟨g, off, rfl, hg, _⟩ := HL.out.2.2 (by omega)
        have HGC := Lib.hid (grow_any C Y R g off xs.length cp R w1 o1 o2 hYR o4 o5 hcp)
        have HPART : Hid (Cells w1 (some ⟨g, off + Y * C * 6, none⟩) C (rowOf C Y xs)) := cells_part (HL.out.below B1.out) (s := Y * C) (m := C) (by omega)
        clear hmb hmr hpos o5 q0 q1
        go_wp2_with fail
        refine HGC.out.mono ?_
        rintro e w2 ⟨rfl, b2⟩
        have B2 : Hid (Below w.heap.size w w2) := B1.out.trans (b2.mono B1.out.size)
        have HP2 := Lib.hid (HPART.out.below b2)
        clear b2 g0 g1 g2
        go_wp2_with fail
        refine (gclone_any _ C C _ _ HP2.out (by omega)).mono ?_
        rintro e w3 ⟨v3, rfl, r3, b3⟩
        have R3 := Lib.hid (r3.up B2.out.size)
        have B3 : Hid (Below w.heap.size w w3) := B2.out.trans (b3.mono B2.out.size)
        clear r3 b3
        go_wp2_with fail
        go_ret
        exact ⟨_, rfl, by rw [HF.out]; exact R3.out, B3.out⟩
end Go.Proofs.YtlhcehealjdbdaaDoor
