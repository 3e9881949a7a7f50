/- Part 8 of the texts that GridPlays stands on, one behind the other. -/
import Derived.Test.YtlhcehealjdbdaaDoorP5
import Derived.Test.YtlhcehealjdbdaaDoorP7
import Derived.Deep.DeepCutAuto
import Derived.Test.YtlhcehealjdbdaaDoorP6
/- Blanks put in and taken out again: the law's walk. -/
namespace Go.Proofs.YtlhcehealjdbdaaDoor
open Go.RowKit
set_option linter.unusedSimpArgs false
set_option linter.unusedVariables false
attribute [local go_sem] alloc_drewN setCell_drewN


theorem InkAt.below {w w' : World} {g : Nat} {f b d l : Int} (h : InkAt w g f b d l) (k : Below w.heap.size w w') (hg : g < w.heap.size) : InkAt w' g f b d l := ⟨(k.cell hg).trans h.1, (k.cell hg).trans h.2.1, (k.cell hg).trans h.2.2.1, (k.cell hg).trans h.2.2.2⟩
def shutB (xs : List Glyph) (k : Nat) : Bool := decide (k < xs.length) && ((at_ xs k).w == 2)
def skipAt (ca cb : Bool) (k m q : Nat) : Bool := ca && (decide (q = k) || decide (q + 1 = k)) || cb && (decide (q = m) || decide (q + 1 = m))
/-- The closure that asks whether a letter is cut at k. -/
theorem shut_any (k : Nat) (a : Option Addr) (n c p : Nat) (xs : List Glyph) (w : World) (hb : w.cell? ⟨p, 0, none⟩ = some (.slice a n c)) (hl : Cells w a n xs) (hk : k ≤ 80) :
    Calls Tryd.prog 28 #[.int .i64 k, .pointer (some ⟨p, 0, none⟩)] w fun e w' => e = .returned (.bool (shutB xs k)) ∧ w = w' := by
  obtain rfl := hl.1
  have HL := Lib.hid hl
  have hn := hl.2.1
  clear hl
  by_cases h1 : k < xs.length
  · have hd1 : decide (k < xs.length) = true := decide_eq_true h1
    obtain ⟨bl, off, rfl, hbl, hc⟩ := HL.out.2.2 (by omega)
    obtain ⟨z, hz⟩ : ∃ z, at_ xs k = z := ⟨_, rfl⟩
    have HC := Lib.hid (hc k h1)
    rw [show xs.getD k g0 = z from hz] at HC
    obtain ⟨_, e1, _⟩ := HC.out
    have HZ := Lib.hid hz
    have hk0 : (0 : Int) ≤ (k : Int) := by omega
    have hk1 : (k : Int) < xs.length := by omega
    clear hz hc
    cases hw : (z.w == 2) with
    | true =>
      go_enter Tryd.func28, Tryd.ntmps28
      go_wp2_with fail
      go_ret
      exact ⟨by unfold shutB; rw [HZ.out, hw, hd1]; rfl, rfl⟩
    | false =>
      go_enter Tryd.func28, Tryd.ntmps28
      go_wp2_with fail
      go_ret
      exact ⟨by unfold shutB; rw [HZ.out, hw, hd1]; rfl, rfl⟩
  · have hd1 : decide (k < xs.length) = false := decide_eq_false h1
    go_enter Tryd.func28, Tryd.ntmps28
    go_wp2_with fail
    go_ret
    exact ⟨by unfold shutB; rw [hd1]; rfl, rfl⟩
theorem shut_as (k : Nat) (x : Int) (hx : (k : Int) = x) (a : Option Addr) (n c p : Nat) (xs : List Glyph) (w : World) (hb : w.cell? ⟨p, 0, none⟩ = some (.slice a n c)) (hl : Cells w a n xs) (hk : k ≤ 80) :
    Calls Tryd.prog 28 #[.int .i64 x, .pointer (some ⟨p, 0, none⟩)] w fun e w' => e = .returned (.bool (shutB xs k)) ∧ w = w' := by
  subst hx
  exact shut_any k a n c p xs w hb hl hk
set_option maxRecDepth 10000 in
set_option maxHeartbeats 2000000 in
theorem cellshifts_walk (a : Option Addr) (n c : Nat) (x m f b d l : Int) (xs : List Glyph) (w : World) (hl : Cells w a n xs) (ht : Tabs w) : Calls Tryd.prog 4 #[.slice a n c, .int .i64 x, .int .i64 m, .agg #[.int .u32 f, .int .u32 b, .int .u8 d, .int .u16 l]] w (RVal (.bool true) w) := by
  obtain rfl := hl.1
  have HL := Lib.hid hl
  have HT := Lib.hid ht
  have hn63 := hl.2.1
  clear hl ht
  have hmf : ∀ (fn : Fn) (first cap : Array Value) (w : World), (Instr.makeFunc fn first cap).run Tryd.prog w = .ok (.func fn first cap) w := fun _ _ _ _ => rfl
  have B0 : Hid (Below w.heap.size w ((w.alloc (.cells #[.slice a xs.length c] 29)).alloc (.cells #[.int .u32 f, .int .u32 b, .int .u8 d, .int .u16 l] 26))) := ((Below.refl _ _).alloc (Nat.le_refl _) _).alloc (by simp) _
  have L0 : Hid (Own ((w.alloc (.cells #[.slice a xs.length c] 29)).alloc (.cells #[.int .u32 f, .int .u32 b, .int .u8 d, .int .u16 l] 26)) w.heap.size 29 #[.slice a xs.length c]) := (Own.new w 29 #[.slice a xs.length c]).alloc _
  have P0' : Own ((w.alloc (.cells #[.slice a xs.length c] 29)).alloc (.cells #[.int .u32 f, .int .u32 b, .int .u8 d, .int .u16 l] 26)) (w.heap.size + 1) 26 #[.int .u32 f, .int .u32 b, .int .u8 d, .int .u16 l] := by
    have h := Own.new (w.alloc (.cells #[.slice a xs.length c] 29)) 26 #[.int .u32 f, .int .u32 b, .int .u8 d, .int .u16 l]
    simpa using h
  have P0 := Lib.hid P0'
  clear P0'
  have hz0 : w.heap.size + 2 ≤ ((w.alloc (.cells #[.slice a xs.length c] 29)).alloc (.cells #[.int .u32 f, .int .u32 b, .int .u8 d, .int .u16 l] 26)).heap.size := by simp
  obtain ⟨rb, hrb⟩ : ∃ rb, rowMay xs = rb := ⟨_, rfl⟩
  obtain ⟨pb, hpb⟩ : ∃ pb, penMay f b = pb := ⟨_, rfl⟩
  have HRB := Lib.hid hrb
  have HPB := Lib.hid hpb
  clear hrb hpb
  go_enter Tryd.func4, Tryd.ntmps4
  go_wp2_with fail
  refine (RVal.as (ref_row_any a xs.length c xs _ (HL.out.below B0.out)) (congrArg Value.bool HRB.out)).mono ?_
  generalize (w.alloc (.cells #[.slice a xs.length c] 29)).alloc (.cells #[.int .u32 f, .int .u32 b, .int .u8 d, .int .u16 l] 26) = w0 at B0 L0 P0 hz0 ⊢
  rintro e w1 ⟨rfl, b1⟩
  have B1 : Hid (Below w.heap.size w w1) := B0.out.trans (b1.mono B0.out.size)
  have L1 := Lib.hid (L0.out.below b1 (by omega))
  have P1 := Lib.hid (P0.out.below b1 (by omega))
  have hz1 : w.heap.size + 2 ≤ w1.heap.size := Nat.le_trans hz0 b1.size
  clear b1
  have eL := Own.cell L1.out 0
  have e0 := Own.cell P1.out 0
  have e1 := Own.cell P1.out 1
  have e2 := Own.cell P1.out 2
  have e3 := Own.cell P1.out 3
  simp only [List.getElem?_toArray, List.getElem?_cons_zero, List.getElem?_cons_succ] at eL e0 e1 e2 e3
  cases rb with
  | false =>
    go_wp2_with fail
    refine (fixed_any _ (HT.out.below B1.out)).mono ?_
    rintro e w2 ⟨rfl, b2⟩
    have B2 : Hid (Below w.heap.size w w2) := B1.out.trans (b2.mono B1.out.size)
    clear b2
    go_wp2_with fail
    go_ret
    exact ⟨rfl, B2.out⟩
  | true =>
    go_wp2_with fail
    refine (RVal.as (ref_pen_any f b d l _) (congrArg Value.bool HPB.out)).mono ?_
    rintro e w2 ⟨rfl, b2⟩
    have B2 : Hid (Below w.heap.size w w2) := B1.out.trans (b2.mono B1.out.size)
    have L2 := Lib.hid (L1.out.below b2 (by omega))
    have P2 := Lib.hid (P1.out.below b2 (by omega))
    have hz2 : w.heap.size + 2 ≤ w2.heap.size := Nat.le_trans hz1 b2.size
    clear b2 eL e0 e1 e2 e3
    have eL := Own.cell L2.out 0
    have e0 := Own.cell P2.out 0
    have e1 := Own.cell P2.out 1
    have e2 := Own.cell P2.out 2
    have e3 := Own.cell P2.out 3
    simp only [List.getElem?_toArray, List.getElem?_cons_zero, List.getElem?_cons_succ] at eL e0 e1 e2 e3
    cases pb with
    | false =>
      go_wp2_with fail
      refine (fixed_any _ (HT.out.below B2.out)).mono ?_
      rintro e w3 ⟨rfl, b3⟩
      have B3 : Hid (Below w.heap.size w w3) := B2.out.trans (b3.mono B2.out.size)
      clear b3
      go_wp2_with fail
      go_ret
      exact ⟨rfl, B3.out⟩
    | true =>
      have hn8 := (row_iff.1 HRB.out).2.1
      cases hx0 : decide (x < 0) with
      | true =>
        go_wp2_with fail
        refine (fixed_any _ (HT.out.below B2.out)).mono ?_
        rintro e w3 ⟨rfl, b3⟩
        have B3 : Hid (Below w.heap.size w w3) := B2.out.trans (b3.mono B2.out.size)
        clear b3
        go_wp2_with fail
        go_ret
        exact ⟨rfl, B3.out⟩
      | false =>
      cases hx1 : decide ((xs.length : Int) ≤ x) with
      | true =>
        go_wp2_with fail
        refine (fixed_any _ (HT.out.below B2.out)).mono ?_
        rintro e w3 ⟨rfl, b3⟩
        have B3 : Hid (Below w.heap.size w w3) := B2.out.trans (b3.mono B2.out.size)
        clear b3
        go_wp2_with fail
        go_ret
        exact ⟨rfl, B3.out⟩
      | false =>
      cases hm1 : decide (m < 1) with
      | true =>
        go_wp2_with fail
        refine (fixed_any _ (HT.out.below B2.out)).mono ?_
        rintro e w3 ⟨rfl, b3⟩
        have B3 : Hid (Below w.heap.size w w3) := B2.out.trans (b3.mono B2.out.size)
        clear b3
        go_wp2_with fail
        go_ret
        exact ⟨rfl, B3.out⟩
      | false =>
      have q0 := of_decide_eq_false hx0
      have q1 := of_decide_eq_false hx1
      have q2 := of_decide_eq_false hm1
      obtain ⟨k, rfl⟩ : ∃ k : Nat, x = k := ⟨x.toNat, by omega⟩
      have hkn : k < xs.length := by omega
      cases hm2 : decide ((xs.length : Int) - k < m) with
      | true =>
        go_wp2_with fail
        refine (fixed_any _ (HT.out.below B2.out)).mono ?_
        rintro e w3 ⟨rfl, b3⟩
        have B3 : Hid (Below w.heap.size w w3) := B2.out.trans (b3.mono B2.out.size)
        clear b3
        go_wp2_with fail
        go_ret
        exact ⟨rfl, B3.out⟩
      | false =>
        have q3 := of_decide_eq_false hm2
        obtain ⟨j, rfl⟩ : ∃ j : Nat, m = j := ⟨m.toNat, by omega⟩
        have hj1 : 1 ≤ j := by omega
        have hkj : k + j ≤ xs.length := by omega
        have HOK : Hid ((rowMay xs && penMay f b) = true) := by rw [HRB.out, HPB.out]; rfl
        have hpt : ∀ i, i < xs.length → at_ (deleteP (insertP xs k j f b) k j f b) i = _ := fun i hi => shifts_pt (x := k) (n := j) HOK.out rfl rfl hj1 hkj hi
        have hIl := insert_len (x := k) (n := j) HOK.out
        have hIr := insert_row (x := k) (n := j) HOK.out
        have hMl : (deleteP (insertP xs k j f b) k j f b).length = xs.length := (delete_len (Bool.and_eq_true_iff.2 ⟨row_yes hIr, HPB.out⟩)).trans hIl
        obtain ⟨I, hI⟩ : ∃ I, insertP xs k j f b = I := ⟨_, rfl⟩
        obtain ⟨M, hM⟩ : ∃ M, deleteP I k j f b = M := ⟨_, rfl⟩
        rw [hI] at hpt hMl
        rw [hM] at hpt hMl
        have HI := Lib.hid hI
        have HM := Lib.hid hM
        have HPT := Lib.hid hpt
        have HML := Lib.hid hMl
        clear hI hM hpt hMl hIl hIr
        have D2 : Hid (Below w.heap.size w w2.drew) := below_drewN B2.out 1
        have S2 : Hid (w2.drew.cell? ⟨w.heap.size, 0, none⟩ = some (.slice a xs.length c) ∧ InkAt w2.drew (w.heap.size + 1) f b d l) := ⟨eL, e0, e1, e2, e3⟩
        go_wp2_with fail
        clear eL e0 e1 e2 e3 hx0 hx1 hm1
        refine wp_region_bits_at (S := fun w' => w'.cell? ⟨w.heap.size, 0, none⟩ = some (.slice a xs.length c) ∧ InkAt w' (w.heap.size + 1) f b d l) [(0, true), (1, true), (2, true), (3, true), (5, true), (6, true), (7, true), (4, false), (8, false), (9, true)] [] (by kernel_rfl) (by kernel_rfl) (fun c a d v w h => by cases d <;> exact h) S2.out ?_
        simp only [bits_, bitOf, List.getElem?_cons_zero, List.getElem?_cons_succ, List.contains_nil]
        repeat (first | (refine bits_take (v := ?_) (by rfl) ?_ ?_; rotate_left; (· intro w' hS; obtain ⟨s0, t0, t1, t2, t3⟩ := hS; go_simp; (try (go_ints; try go_simp)); with_reducible rfl); (try simp only [Act.put, List.setIfInBounds_toArray, List.set_cons_zero, List.set_cons_succ])) | (refine bits_skip (by rfl) ?_; (try simp only [Act.put, List.setIfInBounds_toArray, List.set_cons_zero, List.set_cons_succ])))
        refine bits_eff (by rfl) (fun K hK => ?_)
        go_simp
        (try go_ints)
        refine (insert_any a xs.length c k j f b d l xs _ (HL.out.below D2.out) (HT.out.below D2.out)).mono ?_
        rintro e w3 ⟨v3, rfl, r3, b3⟩
        rw [HI.out] at r3
        obtain ⟨ia, ic, rfl, _⟩ := r3.cells
        have R3 : Hid (CRow w3 w2.heap.size (.slice ia I.length ic) I) := r3
        have D3 : Hid (Below w.heap.size w w3) := D2.out.trans (b3.mono D2.out.size)
        have S3 : Hid (w3.cell? ⟨w.heap.size, 0, none⟩ = some (.slice a xs.length c) ∧ InkAt w3 (w.heap.size + 1) f b d l) := ⟨(b3.cell (p := ⟨w.heap.size, 0, none⟩) (by show w.heap.size < w2.heap.size; omega)).trans S2.out.1, S2.out.2.below b3 (by show _ < w2.heap.size; omega)⟩
        refine hK _ _ ?_ ?_
        · exact S3.out
        clear hK K
        (try simp only [Act.put, List.setIfInBounds_toArray, List.set_cons_zero, List.set_cons_succ])
        repeat (first | (refine bits_take (v := ?_) (by rfl) ?_ ?_; rotate_left; (· intro w' hS; obtain ⟨s0, t0, t1, t2, t3⟩ := hS; go_simp; (try (go_ints; try go_simp)); with_reducible rfl); (try simp only [Act.put, List.setIfInBounds_toArray, List.set_cons_zero, List.set_cons_succ])) | (refine bits_skip (by rfl) ?_; (try simp only [Act.put, List.setIfInBounds_toArray, List.set_cons_zero, List.set_cons_succ])))
        refine bits_eff (by rfl) (fun K hK => ?_)
        go_simp
        (try go_ints)
        refine (delete_any ia I.length ic k j f b d l I _ (cells_of R3.out) (HT.out.below D3.out)).mono ?_
        rintro e w4 ⟨v4, rfl, r4, b4⟩
        rw [HM.out] at r4
        obtain ⟨ma, mc, hv4, _⟩ := r4.cells
        rw [HML.out] at hv4
        obtain rfl := hv4
        have R4 : Hid (CRow w4 w3.heap.size (.slice ma xs.length mc) M) := r4
        have b4' : Below w2.drew.heap.size w2.drew w4 := b3.trans (b4.mono b3.size)
        have S4 : Hid (w4.cell? ⟨w.heap.size, 0, none⟩ = some (.slice a xs.length c) ∧ InkAt w4 (w.heap.size + 1) f b d l) := ⟨(b4'.cell (p := ⟨w.heap.size, 0, none⟩) (by show w.heap.size < w2.heap.size; omega)).trans S2.out.1, S2.out.2.below b4' (by show _ < w2.heap.size; omega)⟩
        refine hK _ _ ?_ ?_
        · exact S4.out
        clear hK K
        (try simp only [Act.put, List.setIfInBounds_toArray, List.set_cons_zero, List.set_cons_succ])
        repeat (first | (refine bits_take (v := ?_) (by rfl) ?_ ?_; rotate_left; (· intro w' hS; obtain ⟨s0, t0, t1, t2, t3⟩ := hS; go_simp; (try (go_ints; try go_simp)); with_reducible rfl); (try simp only [Act.put, List.setIfInBounds_toArray, List.set_cons_zero, List.set_cons_succ])) | (refine bits_skip (by rfl) ?_; (try simp only [Act.put, List.setIfInBounds_toArray, List.set_cons_zero, List.set_cons_succ])))
        refine bits_nil ?_
        have B4 : Hid (Below w.heap.size w w4) := D2.out.trans (b4'.mono D2.out.size)
        have L4 := Lib.hid ((show Own w2.drew w.heap.size 29 #[.slice a xs.length c] from L2.out).below b4' (by show w.heap.size < w2.heap.size; omega))
        have P4 := Lib.hid ((show Own w2.drew (w.heap.size + 1) 26 #[.int .u32 f, .int .u32 b, .int .u8 d, .int .u16 l] from P2.out).below b4' (by show _ < w2.heap.size; omega))
        have hz4 : w.heap.size + 2 ≤ w4.heap.size := Nat.le_trans hz2 b4'.size
        clear b3 b4 b4' S2 S3 S4 r3 R3 D3 r4
        go_wp2_with fail
        refine (fixed_any _ (HT.out.below B4.out)).mono ?_
        rintro e w5 ⟨rfl, b5⟩
        have B5 : Hid (Below w.heap.size w w5) := B4.out.trans (b5.mono B4.out.size)
        have L5 := Lib.hid (L4.out.below b5 (by omega))
        have P5 := Lib.hid (P4.out.below b5 (by omega))
        have hz5 : w.heap.size + 2 ≤ w5.heap.size := Nat.le_trans hz4 b5.size
        have R5 := Lib.hid (R4.out.below b5)
        clear b5
        have eL := Own.cell L5.out 0
        have e0 := Own.cell P5.out 0
        have e1 := Own.cell P5.out 1
        have e2 := Own.cell P5.out 2
        have e3 := Own.cell P5.out 3
        simp only [List.getElem?_toArray, List.getElem?_cons_zero, List.getElem?_cons_succ] at eL e0 e1 e2 e3
        obtain ⟨g, rfl⟩ := crow_addr R5.out (by omega)
        have HSK : Hid (∀ q, q < xs.length → skipAt (shutB xs k) (shutB xs (xs.length - j)) k (xs.length - j) q = false → at_ M q = if q < k ∨ q < xs.length - j then at_ xs q else blank b) := fun q hq hs => by
          rw [HPT.out q hq]
          unfold skipAt shutB at hs
          simp only [Bool.or_eq_false_iff, Bool.and_eq_false_iff, decide_eq_false_iff_not, beq_eq_false_iff_ne] at hs
          by_cases c1 : q < xs.length - j
          · have c2 : ¬ ((at_ xs k).w = 2 ∧ (q = k ∨ q + 1 = k)) := fun r => by omega
            have c3 : ¬ (xs.length - j < xs.length ∧ (at_ xs (xs.length - j)).w = 2 ∧ q + 1 = xs.length - j) := fun r => by omega
            rw [if_pos c1, if_neg c2, if_neg c3, if_pos (Or.inr c1)]
          · rw [if_neg c1, if_neg (by omega)]
        clear HPT
        obtain ⟨ca, hca⟩ : ∃ ca, shutB xs k = ca := ⟨_, rfl⟩
        obtain ⟨cb, hcb⟩ : ∃ cb, shutB xs (xs.length - j) = cb := ⟨_, rfl⟩
        rw [hca, hcb] at HSK
        have HCA := Lib.hid hca
        have HCB := Lib.hid hcb
        clear hca hcb
        obtain ⟨bl, off, rfl, hbl, hc⟩ := (HL.out.below B5.out).2.2 (by omega)
        have HC := Lib.hid hc
        have HX5 := Lib.hid (HL.out.below B5.out)
        clear hc
        go_wp2_with fail
        clear eL e0 e1 e2 e3
        go_loopw [63] (fun i wr => ∃ q : Nat, q ≤ xs.length ∧ i = .int .i64 q ∧ Hid (Below w5.heap.size w5 wr)) (fun i _ => xs.length - (intOf i).toNat)
        case atStart => exact ⟨0, by omega, rfl, Below.refl _ _⟩
        case round =>
          obtain ⟨q, hq, rfl, HR⟩ := hrel
          by_cases hqn : q < xs.length
          · have hdq : decide (q < xs.length) = true := decide_eq_true hqn
            have hq0 : (0 : Int) ≤ (q : Int) := by omega
            have hq1 : (q : Int) < xs.length := by omega
            have hS0 : w.heap.size < w5.heap.size := by omega
            have hS1 : w.heap.size + 1 < w5.heap.size := by omega
            have eL : wr.cell? ⟨w.heap.size, 0, none⟩ = some (.slice (some ⟨bl, off, none⟩) xs.length c) := (HR.out.cell hS0).trans (Own.cell L5.out 0)
            have EI : Hid (InkAt wr (w.heap.size + 1) f b d l) := (ink_of P5.out).below HR.out hS1
            have HXR : Hid (Cells wr (some ⟨bl, off, none⟩) xs.length xs) := HX5.out.below HR.out
            have HQ : Hid (q < xs.length) := hqn
            have hgr5 : g < w5.heap.size := (World.ownsRow.lt R5.out g rfl).2
            have hgr : g < wr.heap.size := Nat.lt_of_lt_of_le hgr5 HR.out.size
            have hpr : w.heap.size + 1 < wr.heap.size := Nat.lt_of_lt_of_le hS1 HR.out.size
            obtain ⟨z, hz⟩ : ∃ z, at_ xs q = z := ⟨_, rfl⟩
            obtain ⟨y, hy⟩ : ∃ y, at_ M q = y := ⟨_, rfl⟩
            have HK := Lib.hid (HSK.out q hqn)
            rw [hz, hy] at HK
            have G1 : Hid (GAt wr bl (off + q * 6) z ∧ GAt wr g (q * 6) y) := ⟨by rw [← hz]; exact (HC.out q hqn).same fun p hp => HR.out.cell (by rw [hp]; exact hbl), by rw [← hy]; exact (crow_at R5.out hqn).1.same fun p hp => HR.out.cell (by rw [hp]; exact hgr5)⟩
            clear hz hy
            go_upto_region 10 with fail
            go_cut [105] (fun v wc => v = .bool (skipAt ca cb k (xs.length - j) q) ∧ wc = wr)
            case first =>
              cases ca with
              | true =>
                by_cases h1 : q = k
                · have h1a : ((q : Int) == (k : Int)) = true := beq_iff_eq.2 (by omega)
                  have h1b : (q == k) = true := beq_iff_eq.2 (by omega)
                  have H1 := Lib.hid h1
                  clear h1
                  go_wp2_with fail
                  refine (shut_as k (k : Int) rfl (some ⟨bl, off, none⟩) xs.length c w.heap.size xs _ eL HXR.out (by omega)).mono ?_
                  rintro e w' ⟨rfl, rfl⟩
                  rw [HCA.out]
                  go_wp2_with fail
                  have h1 := H1.out
                  go_meet
                  exact ⟨congrArg Value.bool (by rw [Bool.eq_iff_iff]; unfold skipAt; simp only [Bool.or_eq_true, Bool.and_eq_true, decide_eq_true_eq, Bool.false_eq_true, true_and, false_and, or_false, false_or, true_iff, false_iff] <;> omega), rfl⟩
                · have h1a : ((q : Int) == (k : Int)) = false := beq_eq_false_iff_ne.2 (by omega)
                  have h1b : (q == k) = false := beq_eq_false_iff_ne.2 (by omega)
                  by_cases h2 : q + 1 = k
                  · have h2a : ((q : Int) == ((k : Int) - 1)) = true := beq_iff_eq.2 (by omega)
                    have h2b : (q == (k - 1)) = true := beq_iff_eq.2 (by omega)
                    go_wp2_with fail
                    refine (shut_as k (k : Int) rfl (some ⟨bl, off, none⟩) xs.length c w.heap.size xs _ eL HXR.out (by omega)).mono ?_
                    rintro e w' ⟨rfl, rfl⟩
                    rw [HCA.out]
                    go_wp2_with fail
                    go_meet
                    exact ⟨congrArg Value.bool (by rw [Bool.eq_iff_iff]; unfold skipAt; simp only [Bool.or_eq_true, Bool.and_eq_true, decide_eq_true_eq, Bool.false_eq_true, true_and, false_and, or_false, false_or, true_iff, false_iff] <;> omega), rfl⟩
                  · have h2a : ((q : Int) == ((k : Int) - 1)) = false := beq_eq_false_iff_ne.2 (by omega)
                    cases cb with
                    | false =>
                      go_wp2_with fail
                      refine (shut_as k (k : Int) rfl (some ⟨bl, off, none⟩) xs.length c w.heap.size xs _ eL HXR.out (by omega)).mono ?_
                      rintro e w' ⟨rfl, rfl⟩
                      rw [HCA.out]
                      go_wp2_with fail
                      refine (shut_as (xs.length - j) ((xs.length : Int) - j) (by omega) (some ⟨bl, off, none⟩) xs.length c w.heap.size xs _ eL HXR.out (by omega)).mono ?_
                      rintro e w' ⟨rfl, rfl⟩
                      rw [HCB.out]
                      go_wp2_with fail
                      go_meet
                      exact ⟨congrArg Value.bool (by rw [Bool.eq_iff_iff]; unfold skipAt; simp only [Bool.or_eq_true, Bool.and_eq_true, decide_eq_true_eq, Bool.false_eq_true, true_and, false_and, or_false, false_or, true_iff, false_iff] <;> omega), rfl⟩
                    | true =>
                      by_cases h3 : q + j = xs.length
                      · have h3a : ((q : Int) == (xs.length : Int) - j) = true := beq_iff_eq.2 (by omega)
                        go_wp2_with fail
                        refine (shut_as k (k : Int) rfl (some ⟨bl, off, none⟩) xs.length c w.heap.size xs _ eL HXR.out (by omega)).mono ?_
                        rintro e w' ⟨rfl, rfl⟩
                        rw [HCA.out]
                        go_wp2_with fail
                        refine (shut_as (xs.length - j) ((xs.length : Int) - j) (by omega) (some ⟨bl, off, none⟩) xs.length c w.heap.size xs _ eL HXR.out (by omega)).mono ?_
                        rintro e w' ⟨rfl, rfl⟩
                        rw [HCB.out]
                        go_wp2_with fail
                        go_meet
                        exact ⟨congrArg Value.bool (by rw [Bool.eq_iff_iff]; unfold skipAt; simp only [Bool.or_eq_true, Bool.and_eq_true, decide_eq_true_eq, Bool.false_eq_true, true_and, false_and, or_false, false_or, true_iff, false_iff] <;> omega), rfl⟩
                      · have h3a : ((q : Int) == (xs.length : Int) - j) = false := beq_eq_false_iff_ne.2 (by omega)
                        by_cases h4 : q + j + 1 = xs.length
                        · have h4a : ((q : Int) == (xs.length : Int) - j - 1) = true := beq_iff_eq.2 (by omega)
                          go_wp2_with fail
                          refine (shut_as k (k : Int) rfl (some ⟨bl, off, none⟩) xs.length c w.heap.size xs _ eL HXR.out (by omega)).mono ?_
                          rintro e w' ⟨rfl, rfl⟩
                          rw [HCA.out]
                          go_wp2_with fail
                          refine (shut_as (xs.length - j) ((xs.length : Int) - j) (by omega) (some ⟨bl, off, none⟩) xs.length c w.heap.size xs _ eL HXR.out (by omega)).mono ?_
                          rintro e w' ⟨rfl, rfl⟩
                          rw [HCB.out]
                          go_wp2_with fail
                          go_meet
                          exact ⟨congrArg Value.bool (by rw [Bool.eq_iff_iff]; unfold skipAt; simp only [Bool.or_eq_true, Bool.and_eq_true, decide_eq_true_eq, Bool.false_eq_true, true_and, false_and, or_false, false_or, true_iff, false_iff] <;> omega), rfl⟩
                        · have h4a : ((q : Int) == (xs.length : Int) - j - 1) = false := beq_eq_false_iff_ne.2 (by omega)
                          go_wp2_with fail
                          refine (shut_as k (k : Int) rfl (some ⟨bl, off, none⟩) xs.length c w.heap.size xs _ eL HXR.out (by omega)).mono ?_
                          rintro e w' ⟨rfl, rfl⟩
                          rw [HCA.out]
                          go_wp2_with fail
                          refine (shut_as (xs.length - j) ((xs.length : Int) - j) (by omega) (some ⟨bl, off, none⟩) xs.length c w.heap.size xs _ eL HXR.out (by omega)).mono ?_
                          rintro e w' ⟨rfl, rfl⟩
                          rw [HCB.out]
                          go_wp2_with fail
                          go_meet
                          exact ⟨congrArg Value.bool (by rw [Bool.eq_iff_iff]; unfold skipAt; simp only [Bool.or_eq_true, Bool.and_eq_true, decide_eq_true_eq, Bool.false_eq_true, true_and, false_and, or_false, false_or, true_iff, false_iff] <;> omega), rfl⟩
              | false =>
                cases cb with
                | false =>
                  go_wp2_with fail
                  refine (shut_as k (k : Int) rfl (some ⟨bl, off, none⟩) xs.length c w.heap.size xs _ eL HXR.out (by omega)).mono ?_
                  rintro e w' ⟨rfl, rfl⟩
                  rw [HCA.out]
                  go_wp2_with fail
                  refine (shut_as (xs.length - j) ((xs.length : Int) - j) (by omega) (some ⟨bl, off, none⟩) xs.length c w.heap.size xs _ eL HXR.out (by omega)).mono ?_
                  rintro e w' ⟨rfl, rfl⟩
                  rw [HCB.out]
                  go_wp2_with fail
                  go_meet
                  exact ⟨congrArg Value.bool (by rw [Bool.eq_iff_iff]; unfold skipAt; simp only [Bool.or_eq_true, Bool.and_eq_true, decide_eq_true_eq, Bool.false_eq_true, true_and, false_and, or_false, false_or, true_iff, false_iff] <;> omega), rfl⟩
                | true =>
                  by_cases h3 : q + j = xs.length
                  · have h3a : ((q : Int) == (xs.length : Int) - j) = true := beq_iff_eq.2 (by omega)
                    go_wp2_with fail
                    refine (shut_as k (k : Int) rfl (some ⟨bl, off, none⟩) xs.length c w.heap.size xs _ eL HXR.out (by omega)).mono ?_
                    rintro e w' ⟨rfl, rfl⟩
                    rw [HCA.out]
                    go_wp2_with fail
                    refine (shut_as (xs.length - j) ((xs.length : Int) - j) (by omega) (some ⟨bl, off, none⟩) xs.length c w.heap.size xs _ eL HXR.out (by omega)).mono ?_
                    rintro e w' ⟨rfl, rfl⟩
                    rw [HCB.out]
                    go_wp2_with fail
                    go_meet
                    exact ⟨congrArg Value.bool (by rw [Bool.eq_iff_iff]; unfold skipAt; simp only [Bool.or_eq_true, Bool.and_eq_true, decide_eq_true_eq, Bool.false_eq_true, true_and, false_and, or_false, false_or, true_iff, false_iff] <;> omega), rfl⟩
                  · have h3a : ((q : Int) == (xs.length : Int) - j) = false := beq_eq_false_iff_ne.2 (by omega)
                    by_cases h4 : q + j + 1 = xs.length
                    · have h4a : ((q : Int) == (xs.length : Int) - j - 1) = true := beq_iff_eq.2 (by omega)
                      go_wp2_with fail
                      refine (shut_as k (k : Int) rfl (some ⟨bl, off, none⟩) xs.length c w.heap.size xs _ eL HXR.out (by omega)).mono ?_
                      rintro e w' ⟨rfl, rfl⟩
                      rw [HCA.out]
                      go_wp2_with fail
                      refine (shut_as (xs.length - j) ((xs.length : Int) - j) (by omega) (some ⟨bl, off, none⟩) xs.length c w.heap.size xs _ eL HXR.out (by omega)).mono ?_
                      rintro e w' ⟨rfl, rfl⟩
                      rw [HCB.out]
                      go_wp2_with fail
                      go_meet
                      exact ⟨congrArg Value.bool (by rw [Bool.eq_iff_iff]; unfold skipAt; simp only [Bool.or_eq_true, Bool.and_eq_true, decide_eq_true_eq, Bool.false_eq_true, true_and, false_and, or_false, false_or, true_iff, false_iff] <;> omega), rfl⟩
                    · have h4a : ((q : Int) == (xs.length : Int) - j - 1) = false := beq_eq_false_iff_ne.2 (by omega)
                      go_wp2_with fail
                      refine (shut_as k (k : Int) rfl (some ⟨bl, off, none⟩) xs.length c w.heap.size xs _ eL HXR.out (by omega)).mono ?_
                      rintro e w' ⟨rfl, rfl⟩
                      rw [HCA.out]
                      go_wp2_with fail
                      refine (shut_as (xs.length - j) ((xs.length : Int) - j) (by omega) (some ⟨bl, off, none⟩) xs.length c w.heap.size xs _ eL HXR.out (by omega)).mono ?_
                      rintro e w' ⟨rfl, rfl⟩
                      rw [HCB.out]
                      go_wp2_with fail
                      go_meet
                      exact ⟨congrArg Value.bool (by rw [Bool.eq_iff_iff]; unfold skipAt; simp only [Bool.or_eq_true, Bool.and_eq_true, decide_eq_true_eq, Bool.false_eq_true, true_and, false_and, or_false, false_or, true_iff, false_iff] <;> omega), rfl⟩
            case rest =>
              obtain ⟨rfl, rfl⟩ := hcut
              cases hsk : skipAt ca cb k (xs.length - j) q with
              | true =>
                go_wp2_with fail
                go_roundw
                case rel => exact ⟨q + 1, by omega, by go_num, HR.out⟩
                case measure => have := HQ.out; simp [intOf]; omega
              | false =>
                have HK2 := Lib.hid (HK.out hsk)
                by_cases h5 : q < k ∨ q < xs.length - j
                · rw [if_pos h5] at HK2
                  obtain rfl : y = z := HK2.out
                  have G2 : Hid ((GAt wc.drew bl (off + q * 6) y ∧ GAt wc.drew g (q * 6) y) ∧ wc.drew.cell? ⟨w.heap.size, 0, none⟩ = some (.slice (some ⟨bl, off, none⟩) xs.length c)) := ⟨G1.out, eL⟩
                  go_upto_region 11 with fail
                  go_cut [116] (fun v wd => v = .bool true ∧ wc = wd)
                  case first =>
                    by_cases h6 : q < k
                    · have h6a : decide (q < k) = true := decide_eq_true h6
                      go_wp2_with fail
                      go_meet
                      exact ⟨rfl, rfl⟩
                    · have h6a : decide (q < k) = false := decide_eq_false h6
                      have h6b : decide ((q : Int) < (xs.length : Int) - j) = true := decide_eq_true (by omega)
                      go_wp2_with fail
                      go_meet
                      exact ⟨rfl, rfl⟩
                  case rest =>
                    obtain ⟨rfl, rfl⟩ := hcut
                    go_upto_region 12 with fail
                    go_cut [125] (fun v we => v = .bool false ∧ we = wc.drew)
                    case first =>
                      refine wp_region_bits_at (S := fun w' => (GAt w' bl (off + q * 6) y ∧ GAt w' g (q * 6) y) ∧ w'.cell? ⟨w.heap.size, 0, none⟩ = some (.slice (some ⟨bl, off, none⟩) xs.length c)) [(0, true), (1, true), (2, true), (3, true), (4, true), (5, true), (6, true), (7, true), (8, true)] [] (by kernel_rfl) (by kernel_rfl) (fun c a d v w h => by cases d <;> exact h) G2.out ?_
                      simp only [bits_, bitOf, List.getElem?_cons_zero, List.getElem?_cons_succ, List.contains_nil]
                      repeat (first | (refine bits_take (v := ?_) (by rfl) ?_ ?_; rotate_left; (· intro w' hS; obtain ⟨⟨⟨s0, s1, s2, s3, s4, s5⟩, t0, t1, t2, t3, t4, t5⟩, u0⟩ := hS; go_simp; (try (go_ints; try go_simp)); with_reducible rfl); (try simp only [Act.put, List.setIfInBounds_toArray, List.set_cons_zero, List.set_cons_succ])) | (refine bits_skip (by rfl) ?_; (try simp only [Act.put, List.setIfInBounds_toArray, List.set_cons_zero, List.set_cons_succ])))
                      refine bits_nil ?_
                      refine Met.intro ?_
                      go_step
                      go_meet
                      exact ⟨rfl, rfl⟩
                    case rest =>
                      obtain ⟨rfl, rfl⟩ := hcut
                      go_wp2_with fail
                      go_roundw
                      case rel => exact ⟨q + 1, HQ.out, by go_num, below_drewN HR.out 1⟩
                      case measure => have := HQ.out; simp [intOf]; omega
                · rw [if_neg h5] at HK2
                  obtain rfl : y = blank b := HK2.out
                  have G3 : Hid (GAt wc.drew g (q * 6) (blank b) ∧ InkAt wc.drew (w.heap.size + 1) f b d l) := ⟨G1.out.2, EI.out⟩
                  go_upto_region 11 with fail
                  go_cut [116] (fun v wd => v = .bool false ∧ wc = wd)
                  case first =>
                    have h6a : decide (q < k) = false := decide_eq_false (by omega)
                    have h6b : decide ((q : Int) < (xs.length : Int) - j) = false := decide_eq_false (by omega)
                    go_wp2_with fail
                    go_meet
                    exact ⟨rfl, rfl⟩
                  case rest =>
                    obtain ⟨rfl, rfl⟩ := hcut
                    go_upto_region 14 with fail
                    go_cut [132] (fun v we => v = .bool false ∧ Hid (Below w5.heap.size w5 we))
                    case first =>
                      refine wp_region_bits_at (S := fun w' => GAt w' g (q * 6) (blank b) ∧ InkAt w' (w.heap.size + 1) f b d l) [(0, true), (1, true), (2, true), (3, true), (4, true), (5, false), (6, true)] [] (by kernel_rfl) (by kernel_rfl) (fun c a d v w h => by cases d <;> exact h) G3.out ?_
                      simp only [bits_, bitOf, List.getElem?_cons_zero, List.getElem?_cons_succ, List.contains_nil]
                      repeat (first | (refine bits_take (v := ?_) (by rfl) ?_ ?_; rotate_left; (· intro w' hS; obtain ⟨⟨t0, t1, t2, t3, t4, t5⟩, s0, s1, s2, s3⟩ := hS; go_simp; (try (go_ints; try go_simp)); with_reducible rfl); (try simp only [Act.put, List.setIfInBounds_toArray, List.set_cons_zero, List.set_cons_succ])) | (refine bits_skip (by rfl) ?_; (try simp only [Act.put, List.setIfInBounds_toArray, List.set_cons_zero, List.set_cons_succ])))
                      refine bits_eff (by rfl) (fun K hK => ?_)
                      go_simp
                      (try go_ints)
                      refine (blank_any f b d l _).mono ?_
                      rintro e wx ⟨rfl, bx⟩
                      have SX : Hid (GAt wx g (q * 6) (blank b) ∧ InkAt wx (w.heap.size + 1) f b d l) := ⟨G3.out.1.same fun p hp => bx.cell (by rw [hp]; exact hgr), G3.out.2.below bx hpr⟩
                      have BX := Lib.hid ((below_drewN HR.out 1).trans (bx.mono HR.out.size))
                      refine hK _ _ ?_ ?_
                      · exact SX.out
                      clear hK K
                      (try simp only [Act.put, List.setIfInBounds_toArray, List.set_cons_zero, List.set_cons_succ])
                      repeat (first | (refine bits_take (v := ?_) (by rfl) ?_ ?_; rotate_left; (· intro w' hS; obtain ⟨⟨t0, t1, t2, t3, t4, t5⟩, s0, s1, s2, s3⟩ := hS; go_simp; (try (go_ints; try go_simp)); with_reducible rfl); (try simp only [Act.put, List.setIfInBounds_toArray, List.set_cons_zero, List.set_cons_succ])) | (refine bits_skip (by rfl) ?_; (try simp only [Act.put, List.setIfInBounds_toArray, List.set_cons_zero, List.set_cons_succ])))
                      refine bits_nil ?_
                      refine Met.intro ?_
                      go_step
                      go_meet
                      exact ⟨rfl, BX⟩
                    case rest =>
                      obtain ⟨rfl, HE⟩ := hcut
                      go_wp2_with fail
                      go_roundw
                      case rel => exact ⟨q + 1, HQ.out, by go_num, HE⟩
                      case measure => have := HQ.out; simp [intOf]; omega
          · have hdq : decide (q < xs.length) = false := decide_eq_false hqn
            go_wp2_with fail
            go_ret
            exact ⟨rfl, B5.out.trans (HR.out.mono B5.out.size)⟩
end Go.Proofs.YtlhcehealjdbdaaDoor
/- Grids with a rune put in a row, with blanks put in, with cells taken out. -/
namespace Go.Proofs.YtlhcehealjdbdaaDoor
open Go.RowKit
set_option linter.unusedSimpArgs false
set_option linter.unusedVariables false
attribute [local go_sem] alloc_drewN setCell_drewN


/-- The closure. -/
theorem gput_cl (x rr f b d l : Int) (b1 b2 b3 : Nat) (a : Option Addr) (n c : Nat) (xs : List Glyph) (w : World) (hx : w.cell? ⟨b1, 0, none⟩ = some (.int .i64 x)) (hr : w.cell? ⟨b2, 0, none⟩ = some (.int .i32 rr)) (hp : InkAt w b3 f b d l) (hl : Cells w a n xs) (ht : Tabs w) :
    Calls Tryd.prog 73 #[.slice a n c, .pointer (some ⟨b1, 0, none⟩), .pointer (some ⟨b2, 0, none⟩), .pointer (some ⟨b3, 0, none⟩)] w (GPost (putP xs x rr f b d l) w) := by
  have HCALL := Lib.hid (put_any a n c x rr f b d l xs w hl ht)
  obtain ⟨p0, p1, p2, p3⟩ := hp
  clear hl ht
  go_enter Tryd.func73, Tryd.ntmps73
  go_wp2_with fail
  refine HCALL.out.mono ?_
  rintro e w1 ⟨v1, rfl, r1, b1⟩
  have R1 := Lib.hid r1
  have B1 := Lib.hid b1
  clear r1 b1
  go_wp2_with fail
  go_ret
  exact ⟨_, rfl, R1.out, B1.out⟩
set_option maxRecDepth 10000 in
set_option maxHeartbeats 2000000 in
theorem gput_any (c r x y rr f b d l : Int) (a : Option Addr) (n cp : Nat) (xs : List Glyph) (w : World) (hl : Cells w a n xs) (hcp : n ≤ cp) (ht : Tabs w) :
    Calls Tryd.prog 57 #[.agg #[.int .i64 c, .int .i64 r, .slice a n cp], .int .i64 x, .int .i64 y, .int .i32 rr, .agg #[.int .u32 f, .int .u32 b, .int .u8 d, .int .u16 l]] w (GG (okI c r xs f b c) (okI c r xs f b r) (turnP c r xs y f b (fun l' => putP l' x rr f b d l)) w) := by
  obtain rfl := hl.1
  have HL := Lib.hid hl
  have HT := Lib.hid ht
  clear hl ht
  have hmf : ∀ (fn : Fn) (first cap : Array Value) (w : World), (Instr.makeFunc fn first cap).run Tryd.prog w = .ok (.func fn first cap) w := fun _ _ _ _ => rfl
  have B0 : Hid (Below w.heap.size w (((((w.alloc (.cells #[.int .i64 c, .int .i64 r, .slice a xs.length cp] 49)).alloc (.cells #[.int .i64 x] 3)).alloc (.cells #[.int .i32 rr] 21)).alloc (.cells #[.int .u32 f, .int .u32 b, .int .u8 d, .int .u16 l] 26)).alloc (.cells #[.int .i64 0, .int .i64 0, .slice none 0 0] 49))) := (((((Below.refl _ _).alloc (Nat.le_refl _) _).alloc (by simp) _).alloc (by simp; omega) _).alloc (by simp; omega) _).alloc (by simp; omega) _
  have hz0 : (((((w.alloc (.cells #[.int .i64 c, .int .i64 r, .slice a xs.length cp] 49)).alloc (.cells #[.int .i64 x] 3)).alloc (.cells #[.int .i32 rr] 21)).alloc (.cells #[.int .u32 f, .int .u32 b, .int .u8 d, .int .u16 l] 26)).alloc (.cells #[.int .i64 0, .int .i64 0, .slice none 0 0] 49)).heap.size = w.heap.size + 5 := by simp
  have G0 : Hid (Own (((((w.alloc (.cells #[.int .i64 c, .int .i64 r, .slice a xs.length cp] 49)).alloc (.cells #[.int .i64 x] 3)).alloc (.cells #[.int .i32 rr] 21)).alloc (.cells #[.int .u32 f, .int .u32 b, .int .u8 d, .int .u16 l] 26)).alloc (.cells #[.int .i64 0, .int .i64 0, .slice none 0 0] 49)) w.heap.size 49 #[.int .i64 c, .int .i64 r, .slice a xs.length cp]) := ((((Own.new w 49 _).alloc _).alloc _).alloc _).alloc _
  have X0' : Own (((((w.alloc (.cells #[.int .i64 c, .int .i64 r, .slice a xs.length cp] 49)).alloc (.cells #[.int .i64 x] 3)).alloc (.cells #[.int .i32 rr] 21)).alloc (.cells #[.int .u32 f, .int .u32 b, .int .u8 d, .int .u16 l] 26)).alloc (.cells #[.int .i64 0, .int .i64 0, .slice none 0 0] 49)) (w.heap.size + 1) 3 #[.int .i64 x] := by
    have h := (((Own.new (w.alloc (.cells #[.int .i64 c, .int .i64 r, .slice a xs.length cp] 49)) 3 #[.int .i64 x]).alloc (.cells #[.int .i32 rr] 21)).alloc (.cells #[.int .u32 f, .int .u32 b, .int .u8 d, .int .u16 l] 26)).alloc (.cells #[.int .i64 0, .int .i64 0, .slice none 0 0] 49)
    simpa using h
  have R0' : Own (((((w.alloc (.cells #[.int .i64 c, .int .i64 r, .slice a xs.length cp] 49)).alloc (.cells #[.int .i64 x] 3)).alloc (.cells #[.int .i32 rr] 21)).alloc (.cells #[.int .u32 f, .int .u32 b, .int .u8 d, .int .u16 l] 26)).alloc (.cells #[.int .i64 0, .int .i64 0, .slice none 0 0] 49)) (w.heap.size + 2) 21 #[.int .i32 rr] := by
    have h := ((Own.new ((w.alloc (.cells #[.int .i64 c, .int .i64 r, .slice a xs.length cp] 49)).alloc (.cells #[.int .i64 x] 3)) 21 #[.int .i32 rr]).alloc (.cells #[.int .u32 f, .int .u32 b, .int .u8 d, .int .u16 l] 26)).alloc (.cells #[.int .i64 0, .int .i64 0, .slice none 0 0] 49)
    simpa using h
  have P0' : Own (((((w.alloc (.cells #[.int .i64 c, .int .i64 r, .slice a xs.length cp] 49)).alloc (.cells #[.int .i64 x] 3)).alloc (.cells #[.int .i32 rr] 21)).alloc (.cells #[.int .u32 f, .int .u32 b, .int .u8 d, .int .u16 l] 26)).alloc (.cells #[.int .i64 0, .int .i64 0, .slice none 0 0] 49)) (w.heap.size + 3) 26 #[.int .u32 f, .int .u32 b, .int .u8 d, .int .u16 l] := by
    have h := (Own.new (((w.alloc (.cells #[.int .i64 c, .int .i64 r, .slice a xs.length cp] 49)).alloc (.cells #[.int .i64 x] 3)).alloc (.cells #[.int .i32 rr] 21)) 26 #[.int .u32 f, .int .u32 b, .int .u8 d, .int .u16 l]).alloc (.cells #[.int .i64 0, .int .i64 0, .slice none 0 0] 49)
    simpa using h
  have A0' : Own (((((w.alloc (.cells #[.int .i64 c, .int .i64 r, .slice a xs.length cp] 49)).alloc (.cells #[.int .i64 x] 3)).alloc (.cells #[.int .i32 rr] 21)).alloc (.cells #[.int .u32 f, .int .u32 b, .int .u8 d, .int .u16 l] 26)).alloc (.cells #[.int .i64 0, .int .i64 0, .slice none 0 0] 49)) (w.heap.size + 4) 49 #[.int .i64 0, .int .i64 0, .slice none 0 0] := by
    have h := Own.new ((((w.alloc (.cells #[.int .i64 c, .int .i64 r, .slice a xs.length cp] 49)).alloc (.cells #[.int .i64 x] 3)).alloc (.cells #[.int .i32 rr] 21)).alloc (.cells #[.int .u32 f, .int .u32 b, .int .u8 d, .int .u16 l] 26)) 49 #[.int .i64 0, .int .i64 0, .slice none 0 0]
    simpa using h
  have X0 := Lib.hid X0'
  have R0 := Lib.hid R0'
  have P0 := Lib.hid P0'
  have A0 := Lib.hid A0'
  clear X0' R0' P0' A0'
  have g0 := Own.cell G0.out 0
  have g1 := Own.cell G0.out 1
  have g2 := Own.cell G0.out 2
  simp only [List.getElem?_toArray, List.getElem?_cons_zero, List.getElem?_cons_succ] at g0 g1 g2
  have e0 := Own.cell P0.out 0
  have e1 := Own.cell P0.out 1
  have e2 := Own.cell P0.out 2
  have e3 := Own.cell P0.out 3
  simp only [List.getElem?_toArray, List.getElem?_cons_zero, List.getElem?_cons_succ] at e0 e1 e2 e3
  go_enter Tryd.func57, Tryd.ntmps57
  go_wp2_with fail
  generalize ((((w.alloc (.cells #[.int .i64 c, .int .i64 r, .slice a xs.length cp] 49)).alloc (.cells #[.int .i64 x] 3)).alloc (.cells #[.int .i32 rr] 21)).alloc (.cells #[.int .u32 f, .int .u32 b, .int .u8 d, .int .u16 l] 26)).alloc (.cells #[.int .i64 0, .int .i64 0, .slice none 0 0] 49) = w0 at B0 hz0 G0 X0 R0 P0 A0 g0 g1 g2 e0 e1 e2 e3 ⊢
  clear g0 g1 g2 e0 e1 e2 e3
  refine (turned73_any c r y f b d l ⟨w.heap.size + 1, 0, none⟩ ⟨w.heap.size + 1 + 1, 0, none⟩ ⟨w.heap.size + 1 + 1 + 1, 0, none⟩ (fun l' => putP l' x rr f b d l) a xs.length cp xs w0 (HL.out.below B0.out) hcp (HT.out.below B0.out)
    (fun a' n' c' l' w' hb hc => gput_cl x rr f b d l _ _ _ a' n' c' l' w' ((hb.cell (p := ⟨w.heap.size + 1, 0, none⟩) (by show w.heap.size + 1 < w0.heap.size; omega)).trans (Own.cell X0.out 0)) ((hb.cell (p := ⟨w.heap.size + 1 + 1, 0, none⟩) (by show w.heap.size + 1 + 1 < w0.heap.size; omega)).trans (Own.cell R0.out 0)) ((ink_of P0.out).below hb (by omega)) hc ((HT.out.below B0.out).below hb)) (fun hp l' h => put_len (Bool.and_eq_true_iff.2 ⟨row_yes h, hp⟩))).mono ?_
  obtain ⟨M, hM⟩ : ∃ M, turnP c r xs y f b (fun l' => putP l' x rr f b d l) = M := ⟨_, rfl⟩
  obtain ⟨c2, hc2⟩ : ∃ c2, okI c r xs f b c = c2 := ⟨_, rfl⟩
  obtain ⟨r2, hr2⟩ : ∃ r2, okI c r xs f b r = r2 := ⟨_, rfl⟩
  rw [hM, hc2, hr2]
  have HM := Lib.hid hM
  have HC2 := Lib.hid hc2
  have HR2 := Lib.hid hr2
  clear hM hc2 hr2
  rintro e w1 ⟨v1, rfl, r1, b1⟩
  obtain ⟨va, vc, rfl, _⟩ := r1.cells
  have R1 := Lib.hid r1
  have B1 : Hid (Below w.heap.size w w1) := B0.out.trans (b1.mono B0.out.size)
  have A1 := Lib.hid (A0.out.below b1 A0.out.lt)
  clear r1 b1
  have hA := A1.out
  go_wp2_with (first
    | (refine gvstore_list rfl _ _ rfl (sa := va) (sc := vc) rfl rfl hA ?_; intro w2 o2 k2; have O2 := Lib.hid o2; have B2 : Hid (Below w.heap.size w w2) := below_grown B1.out k2 (by omega) B1.out.size; have R2 := Lib.hid (crow_other R1.out k2 (by omega)); clear o2 k2 hA)
    | go_in)
  have g0 := Own.cell O2.out 0
  have g1 := Own.cell O2.out 1
  have g2 := Own.cell O2.out 2
  simp only [List.getElem?_toArray, List.getElem?_cons_zero, List.getElem?_cons_succ] at g0 g1 g2
  (try simp only [Exit.inBlock, Exit.then])
  refine bodyPost_ret (v := .agg #[.int .i64 c2, .int .i64 r2, .slice va M.length vc]) (by simp [results, Tryd.results57, go_sem, g0, g1, g2]) rfl ?_
  rw [HM.out, HC2.out, HR2.out]
  exact ⟨_, rfl, R2.out.up B0.out.size, B2.out⟩

/-- The closure. -/
theorem ginsert_cl (x m f b d l : Int) (b1 b2 b3 : Nat) (a : Option Addr) (n c : Nat) (xs : List Glyph) (w : World) (hx : w.cell? ⟨b1, 0, none⟩ = some (.int .i64 x)) (hr : w.cell? ⟨b2, 0, none⟩ = some (.int .i64 m)) (hp : InkAt w b3 f b d l) (hl : Cells w a n xs) (ht : Tabs w) :
    Calls Tryd.prog 75 #[.slice a n c, .pointer (some ⟨b1, 0, none⟩), .pointer (some ⟨b2, 0, none⟩), .pointer (some ⟨b3, 0, none⟩)] w (GPost (insertP xs x m f b) w) := by
  have HCALL := Lib.hid (insert_any a n c x m f b d l xs w hl ht)
  obtain ⟨p0, p1, p2, p3⟩ := hp
  clear hl ht
  go_enter Tryd.func75, Tryd.ntmps75
  go_wp2_with fail
  refine HCALL.out.mono ?_
  rintro e w1 ⟨v1, rfl, r1, b1⟩
  have R1 := Lib.hid r1
  have B1 := Lib.hid b1
  clear r1 b1
  go_wp2_with fail
  go_ret
  exact ⟨_, rfl, R1.out, B1.out⟩
set_option maxRecDepth 10000 in
set_option maxHeartbeats 2000000 in
theorem ginsert_any (c r x y m f b d l : Int) (a : Option Addr) (n cp : Nat) (xs : List Glyph) (w : World) (hl : Cells w a n xs) (hcp : n ≤ cp) (ht : Tabs w) :
    Calls Tryd.prog 61 #[.agg #[.int .i64 c, .int .i64 r, .slice a n cp], .int .i64 x, .int .i64 y, .int .i64 m, .agg #[.int .u32 f, .int .u32 b, .int .u8 d, .int .u16 l]] w (GG (okI c r xs f b c) (okI c r xs f b r) (turnP c r xs y f b (fun l' => insertP l' x m f b)) w) := by
  obtain rfl := hl.1
  have HL := Lib.hid hl
  have HT := Lib.hid ht
  clear hl ht
  have hmf : ∀ (fn : Fn) (first cap : Array Value) (w : World), (Instr.makeFunc fn first cap).run Tryd.prog w = .ok (.func fn first cap) w := fun _ _ _ _ => rfl
  have B0 : Hid (Below w.heap.size w (((((w.alloc (.cells #[.int .i64 c, .int .i64 r, .slice a xs.length cp] 49)).alloc (.cells #[.int .i64 x] 3)).alloc (.cells #[.int .i64 m] 3)).alloc (.cells #[.int .u32 f, .int .u32 b, .int .u8 d, .int .u16 l] 26)).alloc (.cells #[.int .i64 0, .int .i64 0, .slice none 0 0] 49))) := (((((Below.refl _ _).alloc (Nat.le_refl _) _).alloc (by simp) _).alloc (by simp; omega) _).alloc (by simp; omega) _).alloc (by simp; omega) _
  have hz0 : (((((w.alloc (.cells #[.int .i64 c, .int .i64 r, .slice a xs.length cp] 49)).alloc (.cells #[.int .i64 x] 3)).alloc (.cells #[.int .i64 m] 3)).alloc (.cells #[.int .u32 f, .int .u32 b, .int .u8 d, .int .u16 l] 26)).alloc (.cells #[.int .i64 0, .int .i64 0, .slice none 0 0] 49)).heap.size = w.heap.size + 5 := by simp
  have G0 : Hid (Own (((((w.alloc (.cells #[.int .i64 c, .int .i64 r, .slice a xs.length cp] 49)).alloc (.cells #[.int .i64 x] 3)).alloc (.cells #[.int .i64 m] 3)).alloc (.cells #[.int .u32 f, .int .u32 b, .int .u8 d, .int .u16 l] 26)).alloc (.cells #[.int .i64 0, .int .i64 0, .slice none 0 0] 49)) w.heap.size 49 #[.int .i64 c, .int .i64 r, .slice a xs.length cp]) := ((((Own.new w 49 _).alloc _).alloc _).alloc _).alloc _
  have X0' : Own (((((w.alloc (.cells #[.int .i64 c, .int .i64 r, .slice a xs.length cp] 49)).alloc (.cells #[.int .i64 x] 3)).alloc (.cells #[.int .i64 m] 3)).alloc (.cells #[.int .u32 f, .int .u32 b, .int .u8 d, .int .u16 l] 26)).alloc (.cells #[.int .i64 0, .int .i64 0, .slice none 0 0] 49)) (w.heap.size + 1) 3 #[.int .i64 x] := by
    have h := (((Own.new (w.alloc (.cells #[.int .i64 c, .int .i64 r, .slice a xs.length cp] 49)) 3 #[.int .i64 x]).alloc (.cells #[.int .i64 m] 3)).alloc (.cells #[.int .u32 f, .int .u32 b, .int .u8 d, .int .u16 l] 26)).alloc (.cells #[.int .i64 0, .int .i64 0, .slice none 0 0] 49)
    simpa using h
  have R0' : Own (((((w.alloc (.cells #[.int .i64 c, .int .i64 r, .slice a xs.length cp] 49)).alloc (.cells #[.int .i64 x] 3)).alloc (.cells #[.int .i64 m] 3)).alloc (.cells #[.int .u32 f, .int .u32 b, .int .u8 d, .int .u16 l] 26)).alloc (.cells #[.int .i64 0, .int .i64 0, .slice none 0 0] 49)) (w.heap.size + 2) 3 #[.int .i64 m] := by
    have h := ((Own.new ((w.alloc (.cells #[.int .i64 c, .int .i64 r, .slice a xs.length cp] 49)).alloc (.cells #[.int .i64 x] 3)) 3 #[.int .i64 m]).alloc (.cells #[.int .u32 f, .int .u32 b, .int .u8 d, .int .u16 l] 26)).alloc (.cells #[.int .i64 0, .int .i64 0, .slice none 0 0] 49)
    simpa using h
  have P0' : Own (((((w.alloc (.cells #[.int .i64 c, .int .i64 r, .slice a xs.length cp] 49)).alloc (.cells #[.int .i64 x] 3)).alloc (.cells #[.int .i64 m] 3)).alloc (.cells #[.int .u32 f, .int .u32 b, .int .u8 d, .int .u16 l] 26)).alloc (.cells #[.int .i64 0, .int .i64 0, .slice none 0 0] 49)) (w.heap.size + 3) 26 #[.int .u32 f, .int .u32 b, .int .u8 d, .int .u16 l] := by
    have h := (Own.new (((w.alloc (.cells #[.int .i64 c, .int .i64 r, .slice a xs.length cp] 49)).alloc (.cells #[.int .i64 x] 3)).alloc (.cells #[.int .i64 m] 3)) 26 #[.int .u32 f, .int .u32 b, .int .u8 d, .int .u16 l]).alloc (.cells #[.int .i64 0, .int .i64 0, .slice none 0 0] 49)
    simpa using h
  have A0' : Own (((((w.alloc (.cells #[.int .i64 c, .int .i64 r, .slice a xs.length cp] 49)).alloc (.cells #[.int .i64 x] 3)).alloc (.cells #[.int .i64 m] 3)).alloc (.cells #[.int .u32 f, .int .u32 b, .int .u8 d, .int .u16 l] 26)).alloc (.cells #[.int .i64 0, .int .i64 0, .slice none 0 0] 49)) (w.heap.size + 4) 49 #[.int .i64 0, .int .i64 0, .slice none 0 0] := by
    have h := Own.new ((((w.alloc (.cells #[.int .i64 c, .int .i64 r, .slice a xs.length cp] 49)).alloc (.cells #[.int .i64 x] 3)).alloc (.cells #[.int .i64 m] 3)).alloc (.cells #[.int .u32 f, .int .u32 b, .int .u8 d, .int .u16 l] 26)) 49 #[.int .i64 0, .int .i64 0, .slice none 0 0]
    simpa using h
  have X0 := Lib.hid X0'
  have R0 := Lib.hid R0'
  have P0 := Lib.hid P0'
  have A0 := Lib.hid A0'
  clear X0' R0' P0' A0'
  have g0 := Own.cell G0.out 0
  have g1 := Own.cell G0.out 1
  have g2 := Own.cell G0.out 2
  simp only [List.getElem?_toArray, List.getElem?_cons_zero, List.getElem?_cons_succ] at g0 g1 g2
  have e0 := Own.cell P0.out 0
  have e1 := Own.cell P0.out 1
  have e2 := Own.cell P0.out 2
  have e3 := Own.cell P0.out 3
  simp only [List.getElem?_toArray, List.getElem?_cons_zero, List.getElem?_cons_succ] at e0 e1 e2 e3
  go_enter Tryd.func61, Tryd.ntmps61
  go_wp2_with fail
  generalize ((((w.alloc (.cells #[.int .i64 c, .int .i64 r, .slice a xs.length cp] 49)).alloc (.cells #[.int .i64 x] 3)).alloc (.cells #[.int .i64 m] 3)).alloc (.cells #[.int .u32 f, .int .u32 b, .int .u8 d, .int .u16 l] 26)).alloc (.cells #[.int .i64 0, .int .i64 0, .slice none 0 0] 49) = w0 at B0 hz0 G0 X0 R0 P0 A0 g0 g1 g2 e0 e1 e2 e3 ⊢
  clear g0 g1 g2 e0 e1 e2 e3
  refine (turned75_any c r y f b d l ⟨w.heap.size + 1, 0, none⟩ ⟨w.heap.size + 1 + 1, 0, none⟩ ⟨w.heap.size + 1 + 1 + 1, 0, none⟩ (fun l' => insertP l' x m f b) a xs.length cp xs w0 (HL.out.below B0.out) hcp (HT.out.below B0.out)
    (fun a' n' c' l' w' hb hc => ginsert_cl x m f b d l _ _ _ a' n' c' l' w' ((hb.cell (p := ⟨w.heap.size + 1, 0, none⟩) (by show w.heap.size + 1 < w0.heap.size; omega)).trans (Own.cell X0.out 0)) ((hb.cell (p := ⟨w.heap.size + 1 + 1, 0, none⟩) (by show w.heap.size + 1 + 1 < w0.heap.size; omega)).trans (Own.cell R0.out 0)) ((ink_of P0.out).below hb (by omega)) hc ((HT.out.below B0.out).below hb)) (fun hp l' h => insert_len (Bool.and_eq_true_iff.2 ⟨row_yes h, hp⟩))).mono ?_
  obtain ⟨M, hM⟩ : ∃ M, turnP c r xs y f b (fun l' => insertP l' x m f b) = M := ⟨_, rfl⟩
  obtain ⟨c2, hc2⟩ : ∃ c2, okI c r xs f b c = c2 := ⟨_, rfl⟩
  obtain ⟨r2, hr2⟩ : ∃ r2, okI c r xs f b r = r2 := ⟨_, rfl⟩
  rw [hM, hc2, hr2]
  have HM := Lib.hid hM
  have HC2 := Lib.hid hc2
  have HR2 := Lib.hid hr2
  clear hM hc2 hr2
  rintro e w1 ⟨v1, rfl, r1, b1⟩
  obtain ⟨va, vc, rfl, _⟩ := r1.cells
  have R1 := Lib.hid r1
  have B1 : Hid (Below w.heap.size w w1) := B0.out.trans (b1.mono B0.out.size)
  have A1 := Lib.hid (A0.out.below b1 A0.out.lt)
  clear r1 b1
  have hA := A1.out
  go_wp2_with (first
    | (refine gvstore_list rfl _ _ rfl (sa := va) (sc := vc) rfl rfl hA ?_; intro w2 o2 k2; have O2 := Lib.hid o2; have B2 : Hid (Below w.heap.size w w2) := below_grown B1.out k2 (by omega) B1.out.size; have R2 := Lib.hid (crow_other R1.out k2 (by omega)); clear o2 k2 hA)
    | go_in)
  have g0 := Own.cell O2.out 0
  have g1 := Own.cell O2.out 1
  have g2 := Own.cell O2.out 2
  simp only [List.getElem?_toArray, List.getElem?_cons_zero, List.getElem?_cons_succ] at g0 g1 g2
  (try simp only [Exit.inBlock, Exit.then])
  refine bodyPost_ret (v := .agg #[.int .i64 c2, .int .i64 r2, .slice va M.length vc]) (by simp [results, Tryd.results61, go_sem, g0, g1, g2]) rfl ?_
  rw [HM.out, HC2.out, HR2.out]
  exact ⟨_, rfl, R2.out.up B0.out.size, B2.out⟩

/-- The closure. -/
theorem gdelete_cl (x m f b d l : Int) (b1 b2 b3 : Nat) (a : Option Addr) (n c : Nat) (xs : List Glyph) (w : World) (hx : w.cell? ⟨b1, 0, none⟩ = some (.int .i64 x)) (hr : w.cell? ⟨b2, 0, none⟩ = some (.int .i64 m)) (hp : InkAt w b3 f b d l) (hl : Cells w a n xs) (ht : Tabs w) :
    Calls Tryd.prog 76 #[.slice a n c, .pointer (some ⟨b1, 0, none⟩), .pointer (some ⟨b2, 0, none⟩), .pointer (some ⟨b3, 0, none⟩)] w (GPost (deleteP xs x m f b) w) := by
  have HCALL := Lib.hid (delete_any a n c x m f b d l xs w hl ht)
  obtain ⟨p0, p1, p2, p3⟩ := hp
  clear hl ht
  go_enter Tryd.func76, Tryd.ntmps76
  go_wp2_with fail
  refine HCALL.out.mono ?_
  rintro e w1 ⟨v1, rfl, r1, b1⟩
  have R1 := Lib.hid r1
  have B1 := Lib.hid b1
  clear r1 b1
  go_wp2_with fail
  go_ret
  exact ⟨_, rfl, R1.out, B1.out⟩
set_option maxRecDepth 10000 in
set_option maxHeartbeats 2000000 in
theorem gdelete_any (c r x y m f b d l : Int) (a : Option Addr) (n cp : Nat) (xs : List Glyph) (w : World) (hl : Cells w a n xs) (hcp : n ≤ cp) (ht : Tabs w) :
    Calls Tryd.prog 62 #[.agg #[.int .i64 c, .int .i64 r, .slice a n cp], .int .i64 x, .int .i64 y, .int .i64 m, .agg #[.int .u32 f, .int .u32 b, .int .u8 d, .int .u16 l]] w (GG (okI c r xs f b c) (okI c r xs f b r) (turnP c r xs y f b (fun l' => deleteP l' x m f b)) w) := by
  obtain rfl := hl.1
  have HL := Lib.hid hl
  have HT := Lib.hid ht
  clear hl ht
  have hmf : ∀ (fn : Fn) (first cap : Array Value) (w : World), (Instr.makeFunc fn first cap).run Tryd.prog w = .ok (.func fn first cap) w := fun _ _ _ _ => rfl
  have B0 : Hid (Below w.heap.size w (((((w.alloc (.cells #[.int .i64 c, .int .i64 r, .slice a xs.length cp] 49)).alloc (.cells #[.int .i64 x] 3)).alloc (.cells #[.int .i64 m] 3)).alloc (.cells #[.int .u32 f, .int .u32 b, .int .u8 d, .int .u16 l] 26)).alloc (.cells #[.int .i64 0, .int .i64 0, .slice none 0 0] 49))) := (((((Below.refl _ _).alloc (Nat.le_refl _) _).alloc (by simp) _).alloc (by simp; omega) _).alloc (by simp; omega) _).alloc (by simp; omega) _
  have hz0 : (((((w.alloc (.cells #[.int .i64 c, .int .i64 r, .slice a xs.length cp] 49)).alloc (.cells #[.int .i64 x] 3)).alloc (.cells #[.int .i64 m] 3)).alloc (.cells #[.int .u32 f, .int .u32 b, .int .u8 d, .int .u16 l] 26)).alloc (.cells #[.int .i64 0, .int .i64 0, .slice none 0 0] 49)).heap.size = w.heap.size + 5 := by simp
  have G0 : Hid (Own (((((w.alloc (.cells #[.int .i64 c, .int .i64 r, .slice a xs.length cp] 49)).alloc (.cells #[.int .i64 x] 3)).alloc (.cells #[.int .i64 m] 3)).alloc (.cells #[.int .u32 f, .int .u32 b, .int .u8 d, .int .u16 l] 26)).alloc (.cells #[.int .i64 0, .int .i64 0, .slice none 0 0] 49)) w.heap.size 49 #[.int .i64 c, .int .i64 r, .slice a xs.length cp]) := ((((Own.new w 49 _).alloc _).alloc _).alloc _).alloc _
  have X0' : Own (((((w.alloc (.cells #[.int .i64 c, .int .i64 r, .slice a xs.length cp] 49)).alloc (.cells #[.int .i64 x] 3)).alloc (.cells #[.int .i64 m] 3)).alloc (.cells #[.int .u32 f, .int .u32 b, .int .u8 d, .int .u16 l] 26)).alloc (.cells #[.int .i64 0, .int .i64 0, .slice none 0 0] 49)) (w.heap.size + 1) 3 #[.int .i64 x] := by
    have h := (((Own.new (w.alloc (.cells #[.int .i64 c, .int .i64 r, .slice a xs.length cp] 49)) 3 #[.int .i64 x]).alloc (.cells #[.int .i64 m] 3)).alloc (.cells #[.int .u32 f, .int .u32 b, .int .u8 d, .int .u16 l] 26)).alloc (.cells #[.int .i64 0, .int .i64 0, .slice none 0 0] 49)
    simpa using h
  have R0' : Own (((((w.alloc (.cells #[.int .i64 c, .int .i64 r, .slice a xs.length cp] 49)).alloc (.cells #[.int .i64 x] 3)).alloc (.cells #[.int .i64 m] 3)).alloc (.cells #[.int .u32 f, .int .u32 b, .int .u8 d, .int .u16 l] 26)).alloc (.cells #[.int .i64 0, .int .i64 0, .slice none 0 0] 49)) (w.heap.size + 2) 3 #[.int .i64 m] := by
    have h := ((Own.new ((w.alloc (.cells #[.int .i64 c, .int .i64 r, .slice a xs.length cp] 49)).alloc (.cells #[.int .i64 x] 3)) 3 #[.int .i64 m]).alloc (.cells #[.int .u32 f, .int .u32 b, .int .u8 d, .int .u16 l] 26)).alloc (.cells #[.int .i64 0, .int .i64 0, .slice none 0 0] 49)
    simpa using h
  have P0' : Own (((((w.alloc (.cells #[.int .i64 c, .int .i64 r, .slice a xs.length cp] 49)).alloc (.cells #[.int .i64 x] 3)).alloc (.cells #[.int .i64 m] 3)).alloc (.cells #[.int .u32 f, .int .u32 b, .int .u8 d, .int .u16 l] 26)).alloc (.cells #[.int .i64 0, .int .i64 0, .slice none 0 0] 49)) (w.heap.size + 3) 26 #[.int .u32 f, .int .u32 b, .int .u8 d, .int .u16 l] := by
    have h := (Own.new (((w.alloc (.cells #[.int .i64 c, .int .i64 r, .slice a xs.length cp] 49)).alloc (.cells #[.int .i64 x] 3)).alloc (.cells #[.int .i64 m] 3)) 26 #[.int .u32 f, .int .u32 b, .int .u8 d, .int .u16 l]).alloc (.cells #[.int .i64 0, .int .i64 0, .slice none 0 0] 49)
    simpa using h
  have A0' : Own (((((w.alloc (.cells #[.int .i64 c, .int .i64 r, .slice a xs.length cp] 49)).alloc (.cells #[.int .i64 x] 3)).alloc (.cells #[.int .i64 m] 3)).alloc (.cells #[.int .u32 f, .int .u32 b, .int .u8 d, .int .u16 l] 26)).alloc (.cells #[.int .i64 0, .int .i64 0, .slice none 0 0] 49)) (w.heap.size + 4) 49 #[.int .i64 0, .int .i64 0, .slice none 0 0] := by
    have h := Own.new ((((w.alloc (.cells #[.int .i64 c, .int .i64 r, .slice a xs.length cp] 49)).alloc (.cells #[.int .i64 x] 3)).alloc (.cells #[.int .i64 m] 3)).alloc (.cells #[.int .u32 f, .int .u32 b, .int .u8 d, .int .u16 l] 26)) 49 #[.int .i64 0, .int .i64 0, .slice none 0 0]
    simpa using h
  have X0 := Lib.hid X0'
  have R0 := Lib.hid R0'
  have P0 := Lib.hid P0'
  have A0 := Lib.hid A0'
  clear X0' R0' P0' A0'
  have g0 := Own.cell G0.out 0
  have g1 := Own.cell G0.out 1
  have g2 := Own.cell G0.out 2
  simp only [List.getElem?_toArray, List.getElem?_cons_zero, List.getElem?_cons_succ] at g0 g1 g2
  have e0 := Own.cell P0.out 0
  have e1 := Own.cell P0.out 1
  have e2 := Own.cell P0.out 2
  have e3 := Own.cell P0.out 3
  simp only [List.getElem?_toArray, List.getElem?_cons_zero, List.getElem?_cons_succ] at e0 e1 e2 e3
  go_enter Tryd.func62, Tryd.ntmps62
  go_wp2_with fail
  generalize ((((w.alloc (.cells #[.int .i64 c, .int .i64 r, .slice a xs.length cp] 49)).alloc (.cells #[.int .i64 x] 3)).alloc (.cells #[.int .i64 m] 3)).alloc (.cells #[.int .u32 f, .int .u32 b, .int .u8 d, .int .u16 l] 26)).alloc (.cells #[.int .i64 0, .int .i64 0, .slice none 0 0] 49) = w0 at B0 hz0 G0 X0 R0 P0 A0 g0 g1 g2 e0 e1 e2 e3 ⊢
  clear g0 g1 g2 e0 e1 e2 e3
  refine (turned76_any c r y f b d l ⟨w.heap.size + 1, 0, none⟩ ⟨w.heap.size + 1 + 1, 0, none⟩ ⟨w.heap.size + 1 + 1 + 1, 0, none⟩ (fun l' => deleteP l' x m f b) a xs.length cp xs w0 (HL.out.below B0.out) hcp (HT.out.below B0.out)
    (fun a' n' c' l' w' hb hc => gdelete_cl x m f b d l _ _ _ a' n' c' l' w' ((hb.cell (p := ⟨w.heap.size + 1, 0, none⟩) (by show w.heap.size + 1 < w0.heap.size; omega)).trans (Own.cell X0.out 0)) ((hb.cell (p := ⟨w.heap.size + 1 + 1, 0, none⟩) (by show w.heap.size + 1 + 1 < w0.heap.size; omega)).trans (Own.cell R0.out 0)) ((ink_of P0.out).below hb (by omega)) hc ((HT.out.below B0.out).below hb)) (fun hp l' h => delete_len (Bool.and_eq_true_iff.2 ⟨row_yes h, hp⟩))).mono ?_
  obtain ⟨M, hM⟩ : ∃ M, turnP c r xs y f b (fun l' => deleteP l' x m f b) = M := ⟨_, rfl⟩
  obtain ⟨c2, hc2⟩ : ∃ c2, okI c r xs f b c = c2 := ⟨_, rfl⟩
  obtain ⟨r2, hr2⟩ : ∃ r2, okI c r xs f b r = r2 := ⟨_, rfl⟩
  rw [hM, hc2, hr2]
  have HM := Lib.hid hM
  have HC2 := Lib.hid hc2
  have HR2 := Lib.hid hr2
  clear hM hc2 hr2
  rintro e w1 ⟨v1, rfl, r1, b1⟩
  obtain ⟨va, vc, rfl, _⟩ := r1.cells
  have R1 := Lib.hid r1
  have B1 : Hid (Below w.heap.size w w1) := B0.out.trans (b1.mono B0.out.size)
  have A1 := Lib.hid (A0.out.below b1 A0.out.lt)
  clear r1 b1
  have hA := A1.out
  go_wp2_with (first
    | (refine gvstore_list rfl _ _ rfl (sa := va) (sc := vc) rfl rfl hA ?_; intro w2 o2 k2; have O2 := Lib.hid o2; have B2 : Hid (Below w.heap.size w w2) := below_grown B1.out k2 (by omega) B1.out.size; have R2 := Lib.hid (crow_other R1.out k2 (by omega)); clear o2 k2 hA)
    | go_in)
  have g0 := Own.cell O2.out 0
  have g1 := Own.cell O2.out 1
  have g2 := Own.cell O2.out 2
  simp only [List.getElem?_toArray, List.getElem?_cons_zero, List.getElem?_cons_succ] at g0 g1 g2
  (try simp only [Exit.inBlock, Exit.then])
  refine bodyPost_ret (v := .agg #[.int .i64 c2, .int .i64 r2, .slice va M.length vc]) (by simp [results, Tryd.results62, go_sem, g0, g1, g2]) rfl ?_
  rw [HM.out, HC2.out, HR2.out]
  exact ⟨_, rfl, R2.out.up B0.out.size, B2.out⟩
end Go.Proofs.YtlhcehealjdbdaaDoor
