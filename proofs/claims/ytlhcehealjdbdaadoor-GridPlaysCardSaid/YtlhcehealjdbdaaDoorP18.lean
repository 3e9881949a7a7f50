/- Part 18 of the texts that GridPlays stands on, one behind the other. -/
import Derived.Test.YtlhcehealjdbdaaDoorP17
import Derived.Test.YtlhcehealjdbdaaDoorP14
import Derived.Test.YtlhcehealjdbdaaDoorP15
import Derived.Deep.DeepCutAuto
import Derived.Test.YtlhcehealjdbdaaDoorP9
import Derived.Test.YtlhcehealjdbdaaDoorP16
/- A grid in which rows stand further up or down: the document's. -/
namespace Go.Proofs.YtlhcehealjdbdaaDoor
open Go.RowKit
set_option linter.unusedSimpArgs false
set_option linter.unusedVariables false
attribute [local go_sem] alloc_drewN setCell_drewN


theorem rset_list {w : World} {o : Oper} {a : Act} {Q : Exit → Act → World → Prop} {ops : Array Oper} {rest : List Oper} (hgd : o.guard = none) (p v : Operand) (ho : o.op = .store 29 p v) {base g n c i : Nat} {L : List (List Glyph)} {l : List Glyph} {ua : Option Addr} {un uc : Nat}
    (hp : a.eval p = .pointer (some ⟨g, i, none⟩)) (hv : a.eval v = .slice ua un uc) (hr : RowsAt w base (.slice (some ⟨g, 0, none⟩) n c) L) (hi : i < n) (hrow : CRow w 0 (.slice ua un uc) l)
    (h : ∀ w', RowsAt w' base (.slice (some ⟨g, 0, none⟩) n c) (L.set i l) → w.grownBy w' (some g) → wpList Tryd.prog ops Q rest (a.put o.dst undef) w') : wpList Tryd.prog ops Q (o :: rest) a w :=
  wpList_plain hgd fun K hK => rset_op p v ho hp hv hr hi hrow fun w' h1 h2 => hK _ _ (h w' h1 h2)
set_option maxRecDepth 10000 in
set_option maxHeartbeats 4000000 in
theorem ref_scroll_any (c r s t m f b d l : Int) (a : Option Addr) (n cp : Nat) (xs : List Glyph) (w : World) (hl : Cells w a n xs) (hcp : n ≤ cp) :
    Calls Tryd.prog 66 #[.agg #[.int .i64 c, .int .i64 r, .slice a n cp], .int .i64 s, .int .i64 t, .int .i64 m, .agg #[.int .u32 f, .int .u32 b, .int .u8 d, .int .u16 l]] w (GG (okI c r xs f b c) (okI c r xs f b r) (scrollP c r xs s t m f b) w) := by
  obtain rfl := hl.1
  have HL := Lib.hid hl
  clear hl
  have B0 : Hid (Below w.heap.size w (((w.alloc (.cells #[.int .i64 c, .int .i64 r, .slice a xs.length cp] 49)).alloc (.cells #[.int .u32 f, .int .u32 b, .int .u8 d, .int .u16 l] 26)).alloc (.cells #[.int .i64 0, .int .i64 0, .slice none 0 0] 49))) := (((Below.refl _ _).alloc (Nat.le_refl _) _).alloc (by simp) _).alloc (by simp; omega) _
  have G0 : Hid (Own (((w.alloc (.cells #[.int .i64 c, .int .i64 r, .slice a xs.length cp] 49)).alloc (.cells #[.int .u32 f, .int .u32 b, .int .u8 d, .int .u16 l] 26)).alloc (.cells #[.int .i64 0, .int .i64 0, .slice none 0 0] 49)) w.heap.size 49 #[.int .i64 c, .int .i64 r, .slice a xs.length cp]) := ((Own.new w 49 _).alloc _).alloc _
  have P0' : Own (((w.alloc (.cells #[.int .i64 c, .int .i64 r, .slice a xs.length cp] 49)).alloc (.cells #[.int .u32 f, .int .u32 b, .int .u8 d, .int .u16 l] 26)).alloc (.cells #[.int .i64 0, .int .i64 0, .slice none 0 0] 49)) (w.heap.size + 1) 26 #[.int .u32 f, .int .u32 b, .int .u8 d, .int .u16 l] := by
    have h := (Own.new (w.alloc (.cells #[.int .i64 c, .int .i64 r, .slice a xs.length cp] 49)) 26 #[.int .u32 f, .int .u32 b, .int .u8 d, .int .u16 l]).alloc (.cells #[.int .i64 0, .int .i64 0, .slice none 0 0] 49)
    simpa using h
  have A0' : Own (((w.alloc (.cells #[.int .i64 c, .int .i64 r, .slice a xs.length cp] 49)).alloc (.cells #[.int .u32 f, .int .u32 b, .int .u8 d, .int .u16 l] 26)).alloc (.cells #[.int .i64 0, .int .i64 0, .slice none 0 0] 49)) (w.heap.size + 2) 49 #[.int .i64 0, .int .i64 0, .slice none 0 0] := by
    have h := Own.new ((w.alloc (.cells #[.int .i64 c, .int .i64 r, .slice a xs.length cp] 49)).alloc (.cells #[.int .u32 f, .int .u32 b, .int .u8 d, .int .u16 l] 26)) 49 #[.int .i64 0, .int .i64 0, .slice none 0 0]
    simpa using h
  have P0 := Lib.hid P0'
  have A0 := Lib.hid A0'
  have hz0 : w.heap.size + 3 ≤ (((w.alloc (.cells #[.int .i64 c, .int .i64 r, .slice a xs.length cp] 49)).alloc (.cells #[.int .u32 f, .int .u32 b, .int .u8 d, .int .u16 l] 26)).alloc (.cells #[.int .i64 0, .int .i64 0, .slice none 0 0] 49)).heap.size := by simp
  clear P0' A0'
  have g0 := Own.cell G0.out 0
  have g1 := Own.cell G0.out 1
  have g2 := Own.cell G0.out 2
  simp only [List.getElem?_toArray, List.getElem?_cons_zero, List.getElem?_cons_succ] at g0 g1 g2
  go_enter Tryd.func66, Tryd.ntmps66
  go_wp2_with fail
  generalize ((w.alloc (.cells #[.int .i64 c, .int .i64 r, .slice a xs.length cp] 49)).alloc (.cells #[.int .u32 f, .int .u32 b, .int .u8 d, .int .u16 l] 26)).alloc (.cells #[.int .i64 0, .int .i64 0, .slice none 0 0] 49) = w0 at B0 G0 P0 A0 hz0 g0 g1 g2 ⊢
  refine (ref_rows_any c r a xs.length cp xs w0 (HL.out.below B0.out) hcp).mono ?_
  intro e w1 hp
  unfold RowsPost at hp
  obtain ⟨mb, hmb⟩ : ∃ mb, gridMay c r xs = mb := ⟨_, rfl⟩
  cases mb with
  | false =>
    rw [if_neg (by rw [hmb]; decide)] at hp
    obtain ⟨rfl, b1⟩ := hp
    have B1 : Hid (Below w.heap.size w w1) := B0.out.trans (b1.mono B0.out.size)
    have G1 := Lib.hid (G0.out.below b1 (by omega))
    have P1 := Lib.hid (P0.out.below b1 (by omega))
    have A1 := Lib.hid (A0.out.below b1 (by omega))
    have hz1 : w.heap.size + 3 ≤ w1.heap.size := Nat.le_trans hz0 b1.size
    have HF : Hid (okI c r xs f b c = 0 ∧ okI c r xs f b r = 0 ∧ scrollP c r xs s t m f b = []) := by unfold okI scrollP; rw [hmb, Bool.false_and]; exact ⟨rfl, rfl, rfl⟩
    clear b1 g0 g1 g2 hmb
    have hA := A1.out
    go_wp2_with (first
      | (refine gvstore_list rfl _ _ rfl (c := 0) (r := 0) (sa := none) (sn := 0) (sc := 0) rfl rfl hA ?_; intro w2 o2 k2; have O2 := Lib.hid o2; have B2 : Hid (Below w.heap.size w w2) := below_grown B1.out k2 (by omega) B1.out.size; clear o2 k2 hA)
      | go_in)
    have g0 := Own.cell O2.out 0
    have g1 := Own.cell O2.out 1
    have g2 := Own.cell O2.out 2
    simp only [List.getElem?_toArray, List.getElem?_cons_zero, List.getElem?_cons_succ] at g0 g1 g2
    (try simp only [Exit.inBlock, Exit.then])
    refine bodyPost_ret (v := .agg #[.int .i64 0, .int .i64 0, .slice none 0 0]) (by simp [results, Tryd.results66, go_sem, g0, g1, g2]) rfl ?_
    obtain ⟨h1, h2, h3⟩ := HF.out
    rw [h1, h2, h3]
    exact ⟨_, rfl, CRow.nil _ _, B2.out⟩
  | true =>
    rw [if_pos hmb] at hp
    obtain ⟨v1, rfl, r1, b1⟩ := hp
    have B1 : Hid (Below w.heap.size w w1) := B0.out.trans (b1.mono B0.out.size)
    have G1 := Lib.hid (G0.out.below b1 (by omega))
    have P1 := Lib.hid (P0.out.below b1 (by omega))
    have A1 := Lib.hid (A0.out.below b1 (by omega))
    have hz1 : w.heap.size + 3 ≤ w1.heap.size := Nat.le_trans hz0 b1.size
    obtain ⟨pb, hpb⟩ : ∃ pb, penMay f b = pb := ⟨_, rfl⟩
    have HPB := Lib.hid hpb
    have HMB := Lib.hid hmb
    obtain ⟨C, R, rfl, rfl, hgo⟩ := gmay_iff.1 hmb
    have HGO := Lib.hid hgo
    obtain ⟨o1, o2, o3, o4, o5, o6⟩ := hgo
    rw [Int.toNat_natCast, Int.toNat_natCast] at r1
    obtain ⟨la0, lc, rfl⟩ := rows_form r1
    rw [rowsL_len] at r1 ⊢
    obtain ⟨gl, rfl, _, hglo, hgl, _⟩ := rows_addr r1 (by omega)
    have Lr1 := Lib.hid r1
    clear b1 r1 hmb hpb g0 g1 g2 o5 o6
    have e0 := Own.cell P1.out 0
    have e1 := Own.cell P1.out 1
    have e2 := Own.cell P1.out 2
    have e3 := Own.cell P1.out 3
    simp only [List.getElem?_toArray, List.getElem?_cons_zero, List.getElem?_cons_succ] at e0 e1 e2 e3
    go_wp2_with fail
    refine (RVal.as (ref_pen_any f b d l _) (congrArg Value.bool HPB.out)).mono ?_
    rintro e w2 ⟨rfl, b2⟩
    have B2 : Hid (Below w.heap.size w w2) := B1.out.trans (b2.mono B1.out.size)
    have G2 := Lib.hid (G1.out.below b2 (by omega))
    have P2 := Lib.hid (P1.out.below b2 (by omega))
    have A2 := Lib.hid (A1.out.below b2 (by omega))
    have hz2 : w.heap.size + 3 ≤ w2.heap.size := Nat.le_trans hz1 b2.size
    have L2 : Hid (DcRel w w0.heap.size gl lc C R a xs.length cp f b d l (rowsL C R xs) w2) := ⟨Lr1.out.below b2, G2.out, P2.out, A2.out, B2.out⟩
    clear b2 e0 e1 e2 e3
    cases pb with
    | false =>
      have HF : Hid (okI C R xs f b C = 0 ∧ okI C R xs f b R = 0 ∧ scrollP C R xs s t m f b = []) := by unfold okI scrollP; rw [HPB.out, Bool.and_false]; exact ⟨rfl, rfl, rfl⟩
      have hA := A2.out
      go_wp2_with (first
        | (refine gvstore_list rfl _ _ rfl (c := 0) (r := 0) (sa := none) (sn := 0) (sc := 0) rfl rfl hA ?_; intro w3 o3 k3; have O3 := Lib.hid o3; have B3 : Hid (Below w.heap.size w w3) := below_grown B2.out k3 (by omega) B2.out.size; clear o3 k3 hA)
        | go_in)
      have g0 := Own.cell O3.out 0
      have g1 := Own.cell O3.out 1
      have g2 := Own.cell O3.out 2
      simp only [List.getElem?_toArray, List.getElem?_cons_zero, List.getElem?_cons_succ] at g0 g1 g2
      (try simp only [Exit.inBlock, Exit.then])
      refine bodyPost_ret (v := .agg #[.int .i64 0, .int .i64 0, .slice none 0 0]) (by simp [results, Tryd.results66, go_sem, g0, g1, g2]) rfl ?_
      obtain ⟨h1, h2, h3⟩ := HF.out
      rw [h1, h2, h3]
      exact ⟨_, rfl, CRow.nil _ _, B3.out⟩
    | true =>
      have hok : (gridMay C R xs && penMay f b) = true := by rw [HMB.out, HPB.out]; rfl
      have HOI : Hid (okI C R xs f b C = C ∧ okI C R xs f b R = R) := by unfold okI; rw [hok]; exact ⟨rfl, rfl⟩
      clear G2 P2 A2 B2
      cases c1 : decide (s < 0) with
      | true =>
        have q1 := of_decide_eq_true c1
        have hcp0 : scrollP C R xs s t m f b = xs := by
          unfold scrollP
          rw [hok, if_pos rfl, if_pos (by omega)]
        have HCP := Lib.hid hcp0
        clear hcp0
        have HCL : Hid (∀ i, i < R → ((rowsL C R xs).getD i []).length = C) := fun i hi => by rw [rowsL_at hi]; exact row_len HGO.out.2.2.2.2.1 hi
        have HFL := Lib.hid (rows_flat HGO.out.2.2.2.2.1)
        clear hok
        go_wp2_with fail
        refine (of_any C R gl lc w0.heap.size (rowsL C R xs) _ L2.out.1 o3 o4 o1 o2 HCL.out).mono ?_
        rintro e w10 ⟨v10, rfl, r10, b10⟩
        rw [HFL.out] at r10
        obtain ⟨va, vc, rfl, _⟩ := r10.cells
        have RR10 := Lib.hid r10
        have B10 : Hid (Below w.heap.size w w10) := L2.out.2.2.2.2.trans (b10.mono L2.out.2.2.2.2.size)
        have A10 := Lib.hid (L2.out.2.2.2.1.below b10 L2.out.2.2.2.1.lt)
        have ha10 := L2.out.2.2.2.1.lt
        clear r10 b10
        have hA := A10.out
        go_wp2_with (first
          | (refine gvstore_list rfl _ _ rfl (c := C) (r := R) (sa := va) (sc := vc) rfl rfl hA ?_; intro w11 o11 k11; have O11 := Lib.hid o11; have B11 : Hid (Below w.heap.size w w11) := below_grown B10.out k11 (by omega) B10.out.size; have R11 := Lib.hid ((crow_other RR10.out k11 ha10).up L2.out.2.2.2.2.size); clear o11 k11 hA)
          | go_in)
        (try clear g0 g1 g2)
        have g0 := Own.cell O11.out 0
        have g1 := Own.cell O11.out 1
        have g2 := Own.cell O11.out 2
        simp only [List.getElem?_toArray, List.getElem?_cons_zero, List.getElem?_cons_succ] at g0 g1 g2
        (try simp only [Exit.inBlock, Exit.then])
        refine bodyPost_ret (v := .agg #[.int .i64 C, .int .i64 R, .slice va (xs).length vc]) (by simp [results, Tryd.results66, go_sem, g0, g1, g2]) rfl ?_
        rw [HOI.out.1, HOI.out.2, HCP.out]
        exact ⟨_, rfl, R11.out, B11.out⟩
      | false =>
      cases c2 : decide ((R : Int) ≤ t) with
      | true =>
        have q1 := of_decide_eq_true c2
        have hcp0 : scrollP C R xs s t m f b = xs := by
          unfold scrollP
          rw [hok, if_pos rfl, if_pos (by omega)]
        have HCP := Lib.hid hcp0
        clear hcp0
        have HCL : Hid (∀ i, i < R → ((rowsL C R xs).getD i []).length = C) := fun i hi => by rw [rowsL_at hi]; exact row_len HGO.out.2.2.2.2.1 hi
        have HFL := Lib.hid (rows_flat HGO.out.2.2.2.2.1)
        clear hok
        go_wp2_with fail
        refine (of_any C R gl lc w0.heap.size (rowsL C R xs) _ L2.out.1 o3 o4 o1 o2 HCL.out).mono ?_
        rintro e w10 ⟨v10, rfl, r10, b10⟩
        rw [HFL.out] at r10
        obtain ⟨va, vc, rfl, _⟩ := r10.cells
        have RR10 := Lib.hid r10
        have B10 : Hid (Below w.heap.size w w10) := L2.out.2.2.2.2.trans (b10.mono L2.out.2.2.2.2.size)
        have A10 := Lib.hid (L2.out.2.2.2.1.below b10 L2.out.2.2.2.1.lt)
        have ha10 := L2.out.2.2.2.1.lt
        clear r10 b10
        have hA := A10.out
        go_wp2_with (first
          | (refine gvstore_list rfl _ _ rfl (c := C) (r := R) (sa := va) (sc := vc) rfl rfl hA ?_; intro w11 o11 k11; have O11 := Lib.hid o11; have B11 : Hid (Below w.heap.size w w11) := below_grown B10.out k11 (by omega) B10.out.size; have R11 := Lib.hid ((crow_other RR10.out k11 ha10).up L2.out.2.2.2.2.size); clear o11 k11 hA)
          | go_in)
        (try clear g0 g1 g2)
        have g0 := Own.cell O11.out 0
        have g1 := Own.cell O11.out 1
        have g2 := Own.cell O11.out 2
        simp only [List.getElem?_toArray, List.getElem?_cons_zero, List.getElem?_cons_succ] at g0 g1 g2
        (try simp only [Exit.inBlock, Exit.then])
        refine bodyPost_ret (v := .agg #[.int .i64 C, .int .i64 R, .slice va (xs).length vc]) (by simp [results, Tryd.results66, go_sem, g0, g1, g2]) rfl ?_
        rw [HOI.out.1, HOI.out.2, HCP.out]
        exact ⟨_, rfl, R11.out, B11.out⟩
      | false =>
      cases c3 : decide (t < s) with
      | true =>
        have q1 := of_decide_eq_true c3
        have hcp0 : scrollP C R xs s t m f b = xs := by
          unfold scrollP
          rw [hok, if_pos rfl, if_pos (by omega)]
        have HCP := Lib.hid hcp0
        clear hcp0
        have HCL : Hid (∀ i, i < R → ((rowsL C R xs).getD i []).length = C) := fun i hi => by rw [rowsL_at hi]; exact row_len HGO.out.2.2.2.2.1 hi
        have HFL := Lib.hid (rows_flat HGO.out.2.2.2.2.1)
        clear hok
        go_wp2_with fail
        refine (of_any C R gl lc w0.heap.size (rowsL C R xs) _ L2.out.1 o3 o4 o1 o2 HCL.out).mono ?_
        rintro e w10 ⟨v10, rfl, r10, b10⟩
        rw [HFL.out] at r10
        obtain ⟨va, vc, rfl, _⟩ := r10.cells
        have RR10 := Lib.hid r10
        have B10 : Hid (Below w.heap.size w w10) := L2.out.2.2.2.2.trans (b10.mono L2.out.2.2.2.2.size)
        have A10 := Lib.hid (L2.out.2.2.2.1.below b10 L2.out.2.2.2.1.lt)
        have ha10 := L2.out.2.2.2.1.lt
        clear r10 b10
        have hA := A10.out
        go_wp2_with (first
          | (refine gvstore_list rfl _ _ rfl (c := C) (r := R) (sa := va) (sc := vc) rfl rfl hA ?_; intro w11 o11 k11; have O11 := Lib.hid o11; have B11 : Hid (Below w.heap.size w w11) := below_grown B10.out k11 (by omega) B10.out.size; have R11 := Lib.hid ((crow_other RR10.out k11 ha10).up L2.out.2.2.2.2.size); clear o11 k11 hA)
          | go_in)
        (try clear g0 g1 g2)
        have g0 := Own.cell O11.out 0
        have g1 := Own.cell O11.out 1
        have g2 := Own.cell O11.out 2
        simp only [List.getElem?_toArray, List.getElem?_cons_zero, List.getElem?_cons_succ] at g0 g1 g2
        (try simp only [Exit.inBlock, Exit.then])
        refine bodyPost_ret (v := .agg #[.int .i64 C, .int .i64 R, .slice va (xs).length vc]) (by simp [results, Tryd.results66, go_sem, g0, g1, g2]) rfl ?_
        rw [HOI.out.1, HOI.out.2, HCP.out]
        exact ⟨_, rfl, R11.out, B11.out⟩
      | false =>
        have q1 := of_decide_eq_false c1
        have q2 := of_decide_eq_false c2
        have q3 := of_decide_eq_false c3
        obtain ⟨T, rfl⟩ : ∃ T : Nat, s = T := ⟨s.toNat, by omega⟩
        obtain ⟨B, rfl⟩ : ∃ B : Nat, t = B := ⟨t.toNat, by omega⟩
        have hTB : T ≤ B := by omega
        have hB : B < R := by omega
        have hTR : T < R := by omega
        have hC8 : C ≤ 80 := o2
        obtain ⟨M, hM, hMl, hend⟩ := sh_end (n := m) HGO.out HPB.out hTB hB
        have HCP := Lib.hid hM
        have HML := Lib.hid hMl
        obtain ⟨N, hN⟩ : ∃ N, (min m 24).toNat = N := ⟨_, rfl⟩
        obtain ⟨N2, hN2⟩ : ∃ N2, (min (-m) 24).toNat = N2 := ⟨_, rfl⟩
        rw [hN, hN2] at hend
        have HEND := Lib.hid hend
        have hN24 : N ≤ 24 := by omega
        have hN224 : N2 ≤ 24 := by omega
        have HNN : Hid (N = 0 ∨ N2 = 0) := by
          have k : N = 0 ∨ N2 = 0 := by omega
          exact k
        have HN1 : Hid (∀ k : Nat, k < N → (k : Int) < m) := by
          have k : ∀ k : Nat, k < N → (k : Int) < m := fun k hk => by omega
          exact k
        have HN1' : Hid (m ≤ (N : Int) ∨ N = 24) := by
          have k : m ≤ (N : Int) ∨ N = 24 := by omega
          exact k
        have HN2 : Hid (∀ k : Nat, k < N2 → m < -(k : Int)) := by
          have k : ∀ k : Nat, k < N2 → m < -(k : Int) := fun k hk => by omega
          exact k
        have HN2' : Hid (-(N2 : Int) ≤ m ∨ N2 = 24) := by
          have k : -(N2 : Int) ≤ m ∨ N2 = 24 := by omega
          exact k
        have HL0 : Hid (DcRel w w0.heap.size gl lc C R a xs.length cp f b d l (upL C R xs T B b 0 T) w2) := by rw [up_zero]; exact L2.out
        have c2' : decide (R ≤ B) = false := decide_eq_false (by omega)
        have c3' : decide (B < T) = false := decide_eq_false (by omega)
        clear hok q1 q2 q3 hM hMl hend hN hN2 L2
        go_wp2_with fail
        clear c1 c2 c3 c2' c3'
        go_loopw [13] (fun v wr => ∃ k : Nat, k ≤ N ∧ v = .int .i64 k ∧ Hid (DcRel w w0.heap.size gl lc C R a xs.length cp f b d l (upL C R xs T B b k T) wr)) (fun v _ => N - (intOf v).toNat)
        case atStart => exact ⟨0, by omega, rfl, HL0⟩
        case round =>
          obtain ⟨k, hk1, rfl, HK⟩ := hrel
          rename World => wk
          clear HL0
          by_cases hk : k < N
          · have HKN : Hid (k < N) := hk
            have d1 : decide ((k : Int) < m) = true := decide_eq_true (HN1.out k hk)
            have d2 : decide ((k : Int) < 24) = true := decide_eq_true (by omega)
            have hk24 : k < 24 := by omega
            go_wp2_with fail
            go_loopw [14] (fun v wx => ∃ y : Nat, T ≤ y ∧ y ≤ B ∧ v = .int .i64 y ∧ Hid (DcRel w w0.heap.size gl lc C R a xs.length cp f b d l (upL C R xs T B b k y) wx)) (fun v _ => B - (intOf v).toNat)
            case atStart => exact ⟨T, by omega, hTB, rfl, HK⟩
            case round =>
              obtain ⟨y, hy1, hy2, rfl, HX⟩ := hrel
              rename World => wx
              clear HK d1 d2
              by_cases hy : y < B
              · have dy : decide (y < B) = true := decide_eq_true hy
                have hyR : y < R := by omega
                have HY : Hid (y < B) := hy
                obtain ⟨la', lb, hcw, hrw, _⟩ := rows_at HX.out.1 (i := y + 1) (by omega)
                have hq1 : (0 : Int) ≤ (y : Int) := by omega
                have hq2 : (y : Int) < (R : Int) := by omega
                have hq3 : (0 : Int) ≤ (y : Int) + 1 := by omega
                have hq4 : (y : Int) + 1 < (R : Int) := by omega
                have hy24 : y < 24 := by omega
                have HSTEP := Lib.hid (upL_step (C := C) (R := R) (T := T) (B := B) (k := k) (xs := xs) (b := b) hy1 hy hB)
                have hr4 := HX.out.1
                go_wp2_with (first
                  | (refine rset_list rfl _ _ rfl (i := y) rfl rfl hr4 hyR hrw ?_; intro w5 r5 k5; have L4 := HX; have L5 : Hid (DcRel w w0.heap.size gl lc C R a xs.length cp f b d l (upL C R xs T B b k (y + 1)) w5) := ⟨by rw [← HSTEP.out]; exact r5, L4.out.2.1.grown k5 (rw_own L4.out.1 L4.out.2.1 (by decide)), L4.out.2.2.1.grown k5 (rw_own L4.out.1 L4.out.2.2.1 (by decide)), L4.out.2.2.2.1.grown k5 (rw_own L4.out.1 L4.out.2.2.2.1 (by decide)), below_grown L4.out.2.2.2.2 k5 (by have := (rows_lt L4.out.1 (by omega)).1; omega) L4.out.2.2.2.2.size⟩; clear r5 k5 hr4 hrw hcw)
                  | go_in)
                go_roundw
                case rel => exact ⟨y + 1, by omega, HY.out, by go_num, L5⟩
                case measure => have := HY.out; simp [intOf]; omega
              · obtain rfl : B = y := by omega
                have dy : decide (B < B) = false := decide_eq_false hy
                have hq1 : (0 : Int) ≤ (B : Int) := by omega
                have hq2 : (B : Int) < (R : Int) := by omega
                have HSTEP := Lib.hid (upL_last (C := C) (R := R) (T := T) (B := B) (k := k) (xs := xs) (b := b) hTB hB)
                clear hy
                have LX := Lib.hid HX.out
                clear HX
                have g0 := Own.cell LX.out.2.1 0
                have g1 := Own.cell LX.out.2.1 1
                have g2 := Own.cell LX.out.2.1 2
                simp only [List.getElem?_toArray, List.getElem?_cons_zero, List.getElem?_cons_succ] at g0 g1 g2
                have e0 := Own.cell LX.out.2.2.1 0
                have e1 := Own.cell LX.out.2.2.1 1
                have e2 := Own.cell LX.out.2.2.1 2
                have e3 := Own.cell LX.out.2.2.1 3
                simp only [List.getElem?_toArray, List.getElem?_cons_zero, List.getElem?_cons_succ] at e0 e1 e2 e3
                go_wp2_with fail
                refine (blanks_any C hC8 f b d l _).mono ?_
                rintro e w4 ⟨v4, rfl, r4, b4⟩
                have hrl4 : (List.replicate C (blank b)).length = C := List.length_replicate
                obtain ⟨ra, rc, rfl, _⟩ := r4.cells
                rw [hrl4] at r4 ⊢
                have RX4 := Lib.hid (r4.up (Nat.zero_le _))
                have L4 := Lib.hid (LX.out.below b4)
                clear r4 b4 hrl4 g0 g1 g2 e0 e1 e2 e3 LX
                have hr4 := L4.out.1
                have hx4 := RX4.out
                go_wp2_with (first
                  | (refine rset_list rfl _ _ rfl (i := B) rfl rfl hr4 hB hx4 ?_; intro w5 r5 k5; have L5 : Hid (DcRel w w0.heap.size gl lc C R a xs.length cp f b d l (upL C R xs T B b (k + 1) T) w5) := ⟨by rw [← HSTEP.out]; exact r5, L4.out.2.1.grown k5 (rw_own L4.out.1 L4.out.2.1 (by decide)), L4.out.2.2.1.grown k5 (rw_own L4.out.1 L4.out.2.2.1 (by decide)), L4.out.2.2.2.1.grown k5 (rw_own L4.out.1 L4.out.2.2.2.1 (by decide)), below_grown L4.out.2.2.2.2 k5 (by have := (rows_lt L4.out.1 (by omega)).1; omega) L4.out.2.2.2.2.size⟩; clear r5 k5 hr4 hx4)
                  | go_in)
                go_roundw
                case rel => exact ⟨k + 1, HKN.out, by go_num, L5⟩
                case measure => have := HKN.out; simp [intOf]; omega
          · obtain rfl : N = k := by omega
            have HL1 : Hid (DcRel w w0.heap.size gl lc C R a xs.length cp f b d l (shL C R xs T B b N N2 0) wk) := by rw [← sh_start HNN.out]; exact HK.out
            clear HK hk
            go_upto_region 7 with fail
            go_cut [51] (fun v wc => v = .bool false ∧ wk = wc)
            case first =>
              cases d1 : decide ((N : Int) < m) with
              | false =>
                go_wp2_with fail
                go_meet
                exact ⟨rfl, rfl⟩
              | true =>
                have d2 : decide ((N : Int) < 24) = false := decide_eq_false (by have := of_decide_eq_true d1; have := HN1'.out; omega)
                go_wp2_with fail
                go_meet
                exact ⟨rfl, rfl⟩
            case rest =>
              obtain ⟨rfl, rfl⟩ := hcut
              go_wp2_with fail
              go_loopw [15] (fun v wr => ∃ (z : Int) (k : Nat), k ≤ N2 ∧ v = .int .i64 z ∧ z = -(k : Int) ∧ Hid (DcRel w w0.heap.size gl lc C R a xs.length cp f b d l (shL C R xs T B b N N2 k) wr)) (fun v _ => N2 - (-(intOf v)).toNat)
              case atStart => exact ⟨0, 0, by omega, rfl, rfl, HL1⟩
              case round =>
                obtain ⟨z, k, hk1, rfl, hz, HK⟩ := hrel
                rename World => wk
                clear HL1
                have hz1 : -24 ≤ z := by omega
                have hz2 : z ≤ 0 := by omega
                by_cases hk : k < N2
                · have HKN : Hid (k < N2) := hk
                  have d1 : decide (m < z) = true := decide_eq_true (by have := HN2.out k hk; omega)
                  have d2 : decide (-24 < z) = true := decide_eq_true (by omega)
                  have HZ := Lib.hid hz
                  have hsh : ∀ j, shL C R xs T B b N N2 j = dnL C R xs T B b j B := fun j => by unfold shL; rw [if_neg (by omega)]
                  have HSH := Lib.hid hsh
                  have HK2 : Hid (DcRel w w0.heap.size gl lc C R a xs.length cp f b d l (dnL C R xs T B b k B) wk) := by rw [← hsh]; exact HK.out
                  have hz3 : -24 < z := by omega
                  clear hsh HK hz
                  go_wp2_with fail
                  go_loopw [16] (fun v wx => ∃ y : Nat, T ≤ y ∧ y ≤ B ∧ v = .int .i64 y ∧ Hid (DcRel w w0.heap.size gl lc C R a xs.length cp f b d l (dnL C R xs T B b k y) wx)) (fun v _ => (intOf v).toNat)
                  case atStart => exact ⟨B, hTB, by omega, rfl, HK2⟩
                  case round =>
                    obtain ⟨y, hy1, hy2, rfl, HX⟩ := hrel
                    rename World => wx
                    clear HK2 d1 d2
                    by_cases hy : T < y
                    · obtain ⟨x, rfl⟩ : ∃ x, y = x + 1 := ⟨y - 1, by omega⟩
                      have dy : decide (T < x + 1) = true := decide_eq_true hy
                      have hyR : x + 1 < R := by omega
                      have HY : Hid (T ≤ x ∧ x ≤ B) := ⟨by omega, by omega⟩
                      obtain ⟨la', lb, hcw, hrw, _⟩ := rows_at HX.out.1 (i := x) (by omega)
                      have hq1 : (0 : Int) ≤ (x : Int) := by omega
                      have hq2 : (x : Int) < (R : Int) := by omega
                      have hq3 : (0 : Int) ≤ (x : Int) + 1 := by omega
                      have hq4 : (x : Int) + 1 < (R : Int) := by omega
                      have hy24 : x < 24 := by omega
                      have HSTEP := Lib.hid (dnL_step (C := C) (R := R) (T := T) (B := B) (k := k) (xs := xs) (b := b) hy hy2 hB)
                      have hr4 := HX.out.1
                      go_wp2_with (first
                        | (refine rset_list rfl _ _ rfl (i := x + 1) rfl rfl hr4 hyR hrw ?_; intro w5 r5 k5; have L4 := HX; have L5 : Hid (DcRel w w0.heap.size gl lc C R a xs.length cp f b d l (dnL C R xs T B b k x) w5) := ⟨by have k := HSTEP.out; rw [Nat.add_sub_cancel] at k; rw [← k]; exact r5, L4.out.2.1.grown k5 (rw_own L4.out.1 L4.out.2.1 (by decide)), L4.out.2.2.1.grown k5 (rw_own L4.out.1 L4.out.2.2.1 (by decide)), L4.out.2.2.2.1.grown k5 (rw_own L4.out.1 L4.out.2.2.2.1 (by decide)), below_grown L4.out.2.2.2.2 k5 (by have := (rows_lt L4.out.1 (by omega)).1; omega) L4.out.2.2.2.2.size⟩; clear r5 k5 hr4 hrw hcw)
                        | go_in)
                      go_roundw
                      case rel => exact ⟨x, HY.out.1, HY.out.2, by go_num, L5⟩
                      case measure => simp [intOf]
                    · obtain rfl : T = y := by omega
                      have dy : decide (T < T) = false := decide_eq_false hy
                      have hq1 : (0 : Int) ≤ (T : Int) := by omega
                      have hq2 : (T : Int) < (R : Int) := by omega
                      have HSTEP := Lib.hid (dnL_last (C := C) (R := R) (T := T) (B := B) (k := k) (xs := xs) (b := b) hTB hB)
                      clear hy
                      have LX := Lib.hid HX.out
                      clear HX
                      have g0 := Own.cell LX.out.2.1 0
                      have g1 := Own.cell LX.out.2.1 1
                      have g2 := Own.cell LX.out.2.1 2
                      simp only [List.getElem?_toArray, List.getElem?_cons_zero, List.getElem?_cons_succ] at g0 g1 g2
                      have e0 := Own.cell LX.out.2.2.1 0
                      have e1 := Own.cell LX.out.2.2.1 1
                      have e2 := Own.cell LX.out.2.2.1 2
                      have e3 := Own.cell LX.out.2.2.1 3
                      simp only [List.getElem?_toArray, List.getElem?_cons_zero, List.getElem?_cons_succ] at e0 e1 e2 e3
                      go_wp2_with fail
                      refine (blanks_any C hC8 f b d l _).mono ?_
                      rintro e w4 ⟨v4, rfl, r4, b4⟩
                      have hrl4 : (List.replicate C (blank b)).length = C := List.length_replicate
                      obtain ⟨ra, rc, rfl, _⟩ := r4.cells
                      rw [hrl4] at r4 ⊢
                      have RX4 := Lib.hid (r4.up (Nat.zero_le _))
                      have L4 := Lib.hid (LX.out.below b4)
                      clear r4 b4 hrl4 g0 g1 g2 e0 e1 e2 e3 LX
                      have hr4 := L4.out.1
                      have hx4 := RX4.out
                      go_wp2_with (first
                        | (refine rset_list rfl _ _ rfl (i := T) rfl rfl hr4 hTR hx4 ?_; intro w5 r5 k5; have L5 : Hid (DcRel w w0.heap.size gl lc C R a xs.length cp f b d l (dnL C R xs T B b (k + 1) B) w5) := ⟨by rw [← HSTEP.out]; exact r5, L4.out.2.1.grown k5 (rw_own L4.out.1 L4.out.2.1 (by decide)), L4.out.2.2.1.grown k5 (rw_own L4.out.1 L4.out.2.2.1 (by decide)), L4.out.2.2.2.1.grown k5 (rw_own L4.out.1 L4.out.2.2.2.1 (by decide)), below_grown L4.out.2.2.2.2 k5 (by have := (rows_lt L4.out.1 (by omega)).1; omega) L4.out.2.2.2.2.size⟩; clear r5 k5 hr4 hx4)
                        | go_in)
                      go_roundw
                      case rel => exact ⟨z - 1, k + 1, HKN.out, by go_num, by have := HZ.out; omega, by rw [HSH.out]; exact L5⟩
                      case measure => have := HKN.out; have := HZ.out; simp [intOf]; omega
                · obtain rfl : N2 = k := by omega
                  have HZ := Lib.hid hz
                  have HL2 : Hid (DcRel w w0.heap.size gl lc C R a xs.length cp f b d l (rowsL C R M) wk) := by rw [← HEND.out]; exact HK.out
                  have hd3 : m < z → ¬ (-24 < z) := fun q => by have := HN2'.out; omega
                  clear HK hk hz
                  go_upto_region 15 with fail
                  go_cut [81] (fun v wc => v = .bool false ∧ wk = wc)
                  case first =>
                    cases d1 : decide (m < z) with
                    | false =>
                      go_wp2_with fail
                      go_meet
                      exact ⟨rfl, rfl⟩
                    | true =>
                      have d2 : decide (-24 < z) = false := decide_eq_false (hd3 (of_decide_eq_true d1))
                      clear hd3
                      go_wp2_with fail
                      go_meet
                      exact ⟨rfl, rfl⟩
                  case rest =>
                    obtain ⟨rfl, rfl⟩ := hcut
                    have HCL : Hid (∀ i, i < R → ((rowsL C R M).getD i []).length = C) := fun i hi => by rw [rowsL_at hi]; exact row_len HML.out hi
                    have HFL := Lib.hid (rows_flat HML.out)
                    clear hd3
                    go_wp2_with fail
                    refine (of_any C R gl lc w0.heap.size (rowsL C R M) _ HL2.out.1 o3 o4 o1 o2 HCL.out).mono ?_
                    rintro e w10 ⟨v10, rfl, r10, b10⟩
                    rw [HFL.out] at r10
                    obtain ⟨va, vc, rfl, _⟩ := r10.cells
                    have RR10 := Lib.hid r10
                    have B10 : Hid (Below w.heap.size w w10) := HL2.out.2.2.2.2.trans (b10.mono HL2.out.2.2.2.2.size)
                    have A10 := Lib.hid (HL2.out.2.2.2.1.below b10 HL2.out.2.2.2.1.lt)
                    have ha10 := HL2.out.2.2.2.1.lt
                    clear r10 b10
                    have hA := A10.out
                    go_wp2_with (first
                      | (refine gvstore_list rfl _ _ rfl (c := C) (r := R) (sa := va) (sc := vc) rfl rfl hA ?_; intro w11 o11 k11; have O11 := Lib.hid o11; have B11 : Hid (Below w.heap.size w w11) := below_grown B10.out k11 (by omega) B10.out.size; have R11 := Lib.hid ((crow_other RR10.out k11 ha10).up HL2.out.2.2.2.2.size); clear o11 k11 hA)
                      | go_in)
                    (try clear g0 g1 g2)
                    have g0 := Own.cell O11.out 0
                    have g1 := Own.cell O11.out 1
                    have g2 := Own.cell O11.out 2
                    simp only [List.getElem?_toArray, List.getElem?_cons_zero, List.getElem?_cons_succ] at g0 g1 g2
                    (try simp only [Exit.inBlock, Exit.then])
                    refine bodyPost_ret (v := .agg #[.int .i64 C, .int .i64 R, .slice va (M).length vc]) (by simp [results, Tryd.results66, go_sem, g0, g1, g2]) rfl ?_
                    rw [HOI.out.1, HOI.out.2, HCP.out]
                    exact ⟨_, rfl, R11.out, B11.out⟩
end Go.Proofs.YtlhcehealjdbdaaDoor
/- What the program makes of a grid and a call that clears, scrolls or sizes it anew. -/
namespace Go.Proofs.YtlhcehealjdbdaaDoor
open Go.RowKit
set_option linter.unusedSimpArgs false
set_option linter.unusedVariables false
attribute [local go_sem] alloc_drewN setCell_drewN

set_option maxRecDepth 10000 in
set_option maxHeartbeats 4000000 in
theorem gdo_clear (c r x y m rr f b d l : Int) (a : Option Addr) (n cp : Nat) (xs : List Glyph) (w : World) (hl : Cells w a n xs) (hcp : n ≤ cp) (ht : Tabs w) :
    Calls Tryd.prog 42 #[.agg #[.int .i64 c, .int .i64 r, .slice a n cp], .agg #[.int .i64 3, .int .i64 x, .int .i64 y, .int .i64 m, .int .i32 rr, .int .u32 f, .int .u32 b, .int .u8 d, .int .u16 l]] w (GG (okI c r xs f b c) (okI c r xs f b r) (clearP c r xs x m f b) w) := by
  obtain rfl := hl.1
  have HL := Lib.hid hl
  have HT := Lib.hid ht
  clear hl ht
  have B0 : Hid (Below w.heap.size w (((w.alloc (.cells #[.int .i64 c, .int .i64 r, .slice a xs.length cp] 49)).alloc (.cells #[.int .i64 3, .int .i64 x, .int .i64 y, .int .i64 m, .int .i32 rr, .int .u32 f, .int .u32 b, .int .u8 d, .int .u16 l] 68)).alloc (.cells #[.int .i64 0, .int .i64 0, .slice none 0 0] 49))) := (((Below.refl _ _).alloc (Nat.le_refl _) _).alloc (by simp) _).alloc (by simp; omega) _
  have G0 : Hid (Own (((w.alloc (.cells #[.int .i64 c, .int .i64 r, .slice a xs.length cp] 49)).alloc (.cells #[.int .i64 3, .int .i64 x, .int .i64 y, .int .i64 m, .int .i32 rr, .int .u32 f, .int .u32 b, .int .u8 d, .int .u16 l] 68)).alloc (.cells #[.int .i64 0, .int .i64 0, .slice none 0 0] 49)) w.heap.size 49 #[.int .i64 c, .int .i64 r, .slice a xs.length cp]) := ((Own.new w 49 _).alloc _).alloc _
  have P0' : Own (((w.alloc (.cells #[.int .i64 c, .int .i64 r, .slice a xs.length cp] 49)).alloc (.cells #[.int .i64 3, .int .i64 x, .int .i64 y, .int .i64 m, .int .i32 rr, .int .u32 f, .int .u32 b, .int .u8 d, .int .u16 l] 68)).alloc (.cells #[.int .i64 0, .int .i64 0, .slice none 0 0] 49)) (w.heap.size + 1) 68 #[.int .i64 3, .int .i64 x, .int .i64 y, .int .i64 m, .int .i32 rr, .int .u32 f, .int .u32 b, .int .u8 d, .int .u16 l] := by
    have h := (Own.new (w.alloc (.cells #[.int .i64 c, .int .i64 r, .slice a xs.length cp] 49)) 68 #[.int .i64 3, .int .i64 x, .int .i64 y, .int .i64 m, .int .i32 rr, .int .u32 f, .int .u32 b, .int .u8 d, .int .u16 l]).alloc (.cells #[.int .i64 0, .int .i64 0, .slice none 0 0] 49)
    simpa using h
  have A0' : Own (((w.alloc (.cells #[.int .i64 c, .int .i64 r, .slice a xs.length cp] 49)).alloc (.cells #[.int .i64 3, .int .i64 x, .int .i64 y, .int .i64 m, .int .i32 rr, .int .u32 f, .int .u32 b, .int .u8 d, .int .u16 l] 68)).alloc (.cells #[.int .i64 0, .int .i64 0, .slice none 0 0] 49)) (w.heap.size + 2) 49 #[.int .i64 0, .int .i64 0, .slice none 0 0] := by
    have h := Own.new ((w.alloc (.cells #[.int .i64 c, .int .i64 r, .slice a xs.length cp] 49)).alloc (.cells #[.int .i64 3, .int .i64 x, .int .i64 y, .int .i64 m, .int .i32 rr, .int .u32 f, .int .u32 b, .int .u8 d, .int .u16 l] 68)) 49 #[.int .i64 0, .int .i64 0, .slice none 0 0]
    simpa using h
  have A0 := Lib.hid A0'
  clear A0'
  have g0 := Own.cell G0.out 0
  have g1 := Own.cell G0.out 1
  have g2 := Own.cell G0.out 2
  simp only [List.getElem?_toArray, List.getElem?_cons_zero, List.getElem?_cons_succ] at g0 g1 g2
  have e0 := Own.cell P0' 0
  have e1 := Own.cell P0' 1
  have e2 := Own.cell P0' 2
  have e3 := Own.cell P0' 3
  have e4 := Own.cell P0' 4
  have e5 := Own.cell P0' 5
  have e6 := Own.cell P0' 6
  have e7 := Own.cell P0' 7
  have e8 := Own.cell P0' 8
  simp only [List.getElem?_toArray, List.getElem?_cons_zero, List.getElem?_cons_succ] at e0 e1 e2 e3 e4 e5 e6 e7 e8
  clear P0'
  go_enter Tryd.func42, Tryd.ntmps42
  go_wp2_with fail
  generalize ((w.alloc (.cells #[.int .i64 c, .int .i64 r, .slice a xs.length cp] 49)).alloc (.cells #[.int .i64 3, .int .i64 x, .int .i64 y, .int .i64 m, .int .i32 rr, .int .u32 f, .int .u32 b, .int .u8 d, .int .u16 l] 68)).alloc (.cells #[.int .i64 0, .int .i64 0, .slice none 0 0] 49) = w0 at B0 G0 A0 g0 g1 g2 e0 e1 e2 e3 e4 e5 e6 e7 e8 ⊢
  clear g0 g1 g2 e0 e1 e2 e3 e4 e5 e6 e7 e8
  have HCALL := Lib.hid (gclear_any c r x m f b d l a xs.length cp xs w0 (HL.out.below B0.out) hcp (HT.out.below B0.out))
  refine HCALL.out.mono ?_
  clear HCALL
  obtain ⟨c2, hc2⟩ : ∃ c2, okI c r xs f b c = c2 := ⟨_, rfl⟩
  obtain ⟨r2, hr2⟩ : ∃ r2, okI c r xs f b r = r2 := ⟨_, rfl⟩
  obtain ⟨M, hM⟩ : ∃ M, clearP c r xs x m f b = M := ⟨_, rfl⟩
  rw [hc2, hr2, hM]
  have HC2 := Lib.hid hc2
  have HR2 := Lib.hid hr2
  have HM := Lib.hid hM
  clear hc2 hr2 hM
  rintro e w1 ⟨v1, rfl, r1, b1⟩
  obtain ⟨va, vc, rfl, _⟩ := r1.cells
  have R1 := Lib.hid r1
  have B1 : Hid (Below w.heap.size w w1) := B0.out.trans (b1.mono B0.out.size)
  have A1 := Lib.hid (A0.out.below b1 A0.out.lt)
  have ha0 : w.heap.size + 2 < w0.heap.size := A0.out.lt
  clear r1 b1
  have hA := A1.out
  go_wp2_with (first
    | (refine gvstore_list rfl _ _ rfl (sa := va) (sc := vc) rfl rfl hA ?_; intro w2 o2 k2; have O2 := Lib.hid o2; have B2 : Hid (Below w.heap.size w w2) := below_grown B1.out k2 (by omega) B1.out.size; have R2 : Hid (CRow w2 w0.heap.size (.slice va M.length vc) M) := crow_other R1.out k2 (by omega); clear o2 k2 hA)
    | go_in)
  have g0 := Own.cell O2.out 0
  have g1 := Own.cell O2.out 1
  have g2 := Own.cell O2.out 2
  simp only [List.getElem?_toArray, List.getElem?_cons_zero, List.getElem?_cons_succ] at g0 g1 g2
  (try simp only [Exit.inBlock, Exit.then])
  refine bodyPost_ret (v := .agg #[.int .i64 c2, .int .i64 r2, .slice va M.length vc]) (by simp [results, Tryd.results42, go_sem, g0, g1, g2]) rfl ?_
  have hc2 := HC2.out
  have hr2 := HR2.out
  have hM := HM.out
  subst hc2 hr2 hM
  exact ⟨_, rfl, R2.out.up B0.out.size, B2.out⟩
set_option maxRecDepth 10000 in
set_option maxHeartbeats 4000000 in
theorem gdo_scroll (c r x y m rr f b d l : Int) (a : Option Addr) (n cp : Nat) (xs : List Glyph) (w : World) (hl : Cells w a n xs) (hcp : n ≤ cp) (ht : Tabs w) :
    Calls Tryd.prog 42 #[.agg #[.int .i64 c, .int .i64 r, .slice a n cp], .agg #[.int .i64 4, .int .i64 x, .int .i64 y, .int .i64 m, .int .i32 rr, .int .u32 f, .int .u32 b, .int .u8 d, .int .u16 l]] w (GG (okI c r xs f b c) (okI c r xs f b r) (scrollP c r xs x y m f b) w) := by
  obtain rfl := hl.1
  have HL := Lib.hid hl
  have HT := Lib.hid ht
  clear hl ht
  have B0 : Hid (Below w.heap.size w (((w.alloc (.cells #[.int .i64 c, .int .i64 r, .slice a xs.length cp] 49)).alloc (.cells #[.int .i64 4, .int .i64 x, .int .i64 y, .int .i64 m, .int .i32 rr, .int .u32 f, .int .u32 b, .int .u8 d, .int .u16 l] 68)).alloc (.cells #[.int .i64 0, .int .i64 0, .slice none 0 0] 49))) := (((Below.refl _ _).alloc (Nat.le_refl _) _).alloc (by simp) _).alloc (by simp; omega) _
  have G0 : Hid (Own (((w.alloc (.cells #[.int .i64 c, .int .i64 r, .slice a xs.length cp] 49)).alloc (.cells #[.int .i64 4, .int .i64 x, .int .i64 y, .int .i64 m, .int .i32 rr, .int .u32 f, .int .u32 b, .int .u8 d, .int .u16 l] 68)).alloc (.cells #[.int .i64 0, .int .i64 0, .slice none 0 0] 49)) w.heap.size 49 #[.int .i64 c, .int .i64 r, .slice a xs.length cp]) := ((Own.new w 49 _).alloc _).alloc _
  have P0' : Own (((w.alloc (.cells #[.int .i64 c, .int .i64 r, .slice a xs.length cp] 49)).alloc (.cells #[.int .i64 4, .int .i64 x, .int .i64 y, .int .i64 m, .int .i32 rr, .int .u32 f, .int .u32 b, .int .u8 d, .int .u16 l] 68)).alloc (.cells #[.int .i64 0, .int .i64 0, .slice none 0 0] 49)) (w.heap.size + 1) 68 #[.int .i64 4, .int .i64 x, .int .i64 y, .int .i64 m, .int .i32 rr, .int .u32 f, .int .u32 b, .int .u8 d, .int .u16 l] := by
    have h := (Own.new (w.alloc (.cells #[.int .i64 c, .int .i64 r, .slice a xs.length cp] 49)) 68 #[.int .i64 4, .int .i64 x, .int .i64 y, .int .i64 m, .int .i32 rr, .int .u32 f, .int .u32 b, .int .u8 d, .int .u16 l]).alloc (.cells #[.int .i64 0, .int .i64 0, .slice none 0 0] 49)
    simpa using h
  have A0' : Own (((w.alloc (.cells #[.int .i64 c, .int .i64 r, .slice a xs.length cp] 49)).alloc (.cells #[.int .i64 4, .int .i64 x, .int .i64 y, .int .i64 m, .int .i32 rr, .int .u32 f, .int .u32 b, .int .u8 d, .int .u16 l] 68)).alloc (.cells #[.int .i64 0, .int .i64 0, .slice none 0 0] 49)) (w.heap.size + 2) 49 #[.int .i64 0, .int .i64 0, .slice none 0 0] := by
    have h := Own.new ((w.alloc (.cells #[.int .i64 c, .int .i64 r, .slice a xs.length cp] 49)).alloc (.cells #[.int .i64 4, .int .i64 x, .int .i64 y, .int .i64 m, .int .i32 rr, .int .u32 f, .int .u32 b, .int .u8 d, .int .u16 l] 68)) 49 #[.int .i64 0, .int .i64 0, .slice none 0 0]
    simpa using h
  have A0 := Lib.hid A0'
  clear A0'
  have g0 := Own.cell G0.out 0
  have g1 := Own.cell G0.out 1
  have g2 := Own.cell G0.out 2
  simp only [List.getElem?_toArray, List.getElem?_cons_zero, List.getElem?_cons_succ] at g0 g1 g2
  have e0 := Own.cell P0' 0
  have e1 := Own.cell P0' 1
  have e2 := Own.cell P0' 2
  have e3 := Own.cell P0' 3
  have e4 := Own.cell P0' 4
  have e5 := Own.cell P0' 5
  have e6 := Own.cell P0' 6
  have e7 := Own.cell P0' 7
  have e8 := Own.cell P0' 8
  simp only [List.getElem?_toArray, List.getElem?_cons_zero, List.getElem?_cons_succ] at e0 e1 e2 e3 e4 e5 e6 e7 e8
  clear P0'
  go_enter Tryd.func42, Tryd.ntmps42
  go_wp2_with fail
  generalize ((w.alloc (.cells #[.int .i64 c, .int .i64 r, .slice a xs.length cp] 49)).alloc (.cells #[.int .i64 4, .int .i64 x, .int .i64 y, .int .i64 m, .int .i32 rr, .int .u32 f, .int .u32 b, .int .u8 d, .int .u16 l] 68)).alloc (.cells #[.int .i64 0, .int .i64 0, .slice none 0 0] 49) = w0 at B0 G0 A0 g0 g1 g2 e0 e1 e2 e3 e4 e5 e6 e7 e8 ⊢
  clear g0 g1 g2 e0 e1 e2 e3 e4 e5 e6 e7 e8
  have HCALL := Lib.hid (gscroll_any c r x y m f b d l a xs.length cp xs w0 (HL.out.below B0.out) hcp (HT.out.below B0.out))
  refine HCALL.out.mono ?_
  clear HCALL
  obtain ⟨c2, hc2⟩ : ∃ c2, okI c r xs f b c = c2 := ⟨_, rfl⟩
  obtain ⟨r2, hr2⟩ : ∃ r2, okI c r xs f b r = r2 := ⟨_, rfl⟩
  obtain ⟨M, hM⟩ : ∃ M, scrollP c r xs x y m f b = M := ⟨_, rfl⟩
  rw [hc2, hr2, hM]
  have HC2 := Lib.hid hc2
  have HR2 := Lib.hid hr2
  have HM := Lib.hid hM
  clear hc2 hr2 hM
  rintro e w1 ⟨v1, rfl, r1, b1⟩
  obtain ⟨va, vc, rfl, _⟩ := r1.cells
  have R1 := Lib.hid r1
  have B1 : Hid (Below w.heap.size w w1) := B0.out.trans (b1.mono B0.out.size)
  have A1 := Lib.hid (A0.out.below b1 A0.out.lt)
  have ha0 : w.heap.size + 2 < w0.heap.size := A0.out.lt
  clear r1 b1
  have hA := A1.out
  go_wp2_with (first
    | (refine gvstore_list rfl _ _ rfl (sa := va) (sc := vc) rfl rfl hA ?_; intro w2 o2 k2; have O2 := Lib.hid o2; have B2 : Hid (Below w.heap.size w w2) := below_grown B1.out k2 (by omega) B1.out.size; have R2 : Hid (CRow w2 w0.heap.size (.slice va M.length vc) M) := crow_other R1.out k2 (by omega); clear o2 k2 hA)
    | go_in)
  have g0 := Own.cell O2.out 0
  have g1 := Own.cell O2.out 1
  have g2 := Own.cell O2.out 2
  simp only [List.getElem?_toArray, List.getElem?_cons_zero, List.getElem?_cons_succ] at g0 g1 g2
  (try simp only [Exit.inBlock, Exit.then])
  refine bodyPost_ret (v := .agg #[.int .i64 c2, .int .i64 r2, .slice va M.length vc]) (by simp [results, Tryd.results42, go_sem, g0, g1, g2]) rfl ?_
  have hc2 := HC2.out
  have hr2 := HR2.out
  have hM := HM.out
  subst hc2 hr2 hM
  exact ⟨_, rfl, R2.out.up B0.out.size, B2.out⟩
set_option maxRecDepth 10000 in
set_option maxHeartbeats 4000000 in
theorem gdo_resize (c r x y m rr f b d l : Int) (a : Option Addr) (n cp : Nat) (xs : List Glyph) (w : World) (hl : Cells w a n xs) (hcp : n ≤ cp) (ht : Tabs w) :
    Calls Tryd.prog 42 #[.agg #[.int .i64 c, .int .i64 r, .slice a n cp], .agg #[.int .i64 5, .int .i64 x, .int .i64 y, .int .i64 m, .int .i32 rr, .int .u32 f, .int .u32 b, .int .u8 d, .int .u16 l]] w (GG (rzI c r xs x y x) (rzI c r xs x y y) (resizeP c r xs x y) w) := by
  obtain rfl := hl.1
  have HL := Lib.hid hl
  have HT := Lib.hid ht
  clear hl ht
  have B0 : Hid (Below w.heap.size w (((w.alloc (.cells #[.int .i64 c, .int .i64 r, .slice a xs.length cp] 49)).alloc (.cells #[.int .i64 5, .int .i64 x, .int .i64 y, .int .i64 m, .int .i32 rr, .int .u32 f, .int .u32 b, .int .u8 d, .int .u16 l] 68)).alloc (.cells #[.int .i64 0, .int .i64 0, .slice none 0 0] 49))) := (((Below.refl _ _).alloc (Nat.le_refl _) _).alloc (by simp) _).alloc (by simp; omega) _
  have G0 : Hid (Own (((w.alloc (.cells #[.int .i64 c, .int .i64 r, .slice a xs.length cp] 49)).alloc (.cells #[.int .i64 5, .int .i64 x, .int .i64 y, .int .i64 m, .int .i32 rr, .int .u32 f, .int .u32 b, .int .u8 d, .int .u16 l] 68)).alloc (.cells #[.int .i64 0, .int .i64 0, .slice none 0 0] 49)) w.heap.size 49 #[.int .i64 c, .int .i64 r, .slice a xs.length cp]) := ((Own.new w 49 _).alloc _).alloc _
  have P0' : Own (((w.alloc (.cells #[.int .i64 c, .int .i64 r, .slice a xs.length cp] 49)).alloc (.cells #[.int .i64 5, .int .i64 x, .int .i64 y, .int .i64 m, .int .i32 rr, .int .u32 f, .int .u32 b, .int .u8 d, .int .u16 l] 68)).alloc (.cells #[.int .i64 0, .int .i64 0, .slice none 0 0] 49)) (w.heap.size + 1) 68 #[.int .i64 5, .int .i64 x, .int .i64 y, .int .i64 m, .int .i32 rr, .int .u32 f, .int .u32 b, .int .u8 d, .int .u16 l] := by
    have h := (Own.new (w.alloc (.cells #[.int .i64 c, .int .i64 r, .slice a xs.length cp] 49)) 68 #[.int .i64 5, .int .i64 x, .int .i64 y, .int .i64 m, .int .i32 rr, .int .u32 f, .int .u32 b, .int .u8 d, .int .u16 l]).alloc (.cells #[.int .i64 0, .int .i64 0, .slice none 0 0] 49)
    simpa using h
  have A0' : Own (((w.alloc (.cells #[.int .i64 c, .int .i64 r, .slice a xs.length cp] 49)).alloc (.cells #[.int .i64 5, .int .i64 x, .int .i64 y, .int .i64 m, .int .i32 rr, .int .u32 f, .int .u32 b, .int .u8 d, .int .u16 l] 68)).alloc (.cells #[.int .i64 0, .int .i64 0, .slice none 0 0] 49)) (w.heap.size + 2) 49 #[.int .i64 0, .int .i64 0, .slice none 0 0] := by
    have h := Own.new ((w.alloc (.cells #[.int .i64 c, .int .i64 r, .slice a xs.length cp] 49)).alloc (.cells #[.int .i64 5, .int .i64 x, .int .i64 y, .int .i64 m, .int .i32 rr, .int .u32 f, .int .u32 b, .int .u8 d, .int .u16 l] 68)) 49 #[.int .i64 0, .int .i64 0, .slice none 0 0]
    simpa using h
  have A0 := Lib.hid A0'
  clear A0'
  have g0 := Own.cell G0.out 0
  have g1 := Own.cell G0.out 1
  have g2 := Own.cell G0.out 2
  simp only [List.getElem?_toArray, List.getElem?_cons_zero, List.getElem?_cons_succ] at g0 g1 g2
  have e0 := Own.cell P0' 0
  have e1 := Own.cell P0' 1
  have e2 := Own.cell P0' 2
  have e3 := Own.cell P0' 3
  have e4 := Own.cell P0' 4
  have e5 := Own.cell P0' 5
  have e6 := Own.cell P0' 6
  have e7 := Own.cell P0' 7
  have e8 := Own.cell P0' 8
  simp only [List.getElem?_toArray, List.getElem?_cons_zero, List.getElem?_cons_succ] at e0 e1 e2 e3 e4 e5 e6 e7 e8
  clear P0'
  go_enter Tryd.func42, Tryd.ntmps42
  go_wp2_with fail
  generalize ((w.alloc (.cells #[.int .i64 c, .int .i64 r, .slice a xs.length cp] 49)).alloc (.cells #[.int .i64 5, .int .i64 x, .int .i64 y, .int .i64 m, .int .i32 rr, .int .u32 f, .int .u32 b, .int .u8 d, .int .u16 l] 68)).alloc (.cells #[.int .i64 0, .int .i64 0, .slice none 0 0] 49) = w0 at B0 G0 A0 g0 g1 g2 e0 e1 e2 e3 e4 e5 e6 e7 e8 ⊢
  clear g0 g1 g2 e0 e1 e2 e3 e4 e5 e6 e7 e8
  have HCALL := Lib.hid (gresize_any c r x y a xs.length cp xs w0 (HL.out.below B0.out) hcp (HT.out.below B0.out))
  refine HCALL.out.mono ?_
  clear HCALL
  obtain ⟨c2, hc2⟩ : ∃ c2, rzI c r xs x y x = c2 := ⟨_, rfl⟩
  obtain ⟨r2, hr2⟩ : ∃ r2, rzI c r xs x y y = r2 := ⟨_, rfl⟩
  obtain ⟨M, hM⟩ : ∃ M, resizeP c r xs x y = M := ⟨_, rfl⟩
  rw [hc2, hr2, hM]
  have HC2 := Lib.hid hc2
  have HR2 := Lib.hid hr2
  have HM := Lib.hid hM
  clear hc2 hr2 hM
  rintro e w1 ⟨v1, rfl, r1, b1⟩
  obtain ⟨va, vc, rfl, _⟩ := r1.cells
  have R1 := Lib.hid r1
  have B1 : Hid (Below w.heap.size w w1) := B0.out.trans (b1.mono B0.out.size)
  have A1 := Lib.hid (A0.out.below b1 A0.out.lt)
  have ha0 : w.heap.size + 2 < w0.heap.size := A0.out.lt
  clear r1 b1
  have hA := A1.out
  go_wp2_with (first
    | (refine gvstore_list rfl _ _ rfl (sa := va) (sc := vc) rfl rfl hA ?_; intro w2 o2 k2; have O2 := Lib.hid o2; have B2 : Hid (Below w.heap.size w w2) := below_grown B1.out k2 (by omega) B1.out.size; have R2 : Hid (CRow w2 w0.heap.size (.slice va M.length vc) M) := crow_other R1.out k2 (by omega); clear o2 k2 hA)
    | go_in)
  have g0 := Own.cell O2.out 0
  have g1 := Own.cell O2.out 1
  have g2 := Own.cell O2.out 2
  simp only [List.getElem?_toArray, List.getElem?_cons_zero, List.getElem?_cons_succ] at g0 g1 g2
  (try simp only [Exit.inBlock, Exit.then])
  refine bodyPost_ret (v := .agg #[.int .i64 c2, .int .i64 r2, .slice va M.length vc]) (by simp [results, Tryd.results42, go_sem, g0, g1, g2]) rfl ?_
  have hc2 := HC2.out
  have hr2 := HR2.out
  have hM := HM.out
  subst hc2 hr2 hM
  exact ⟨_, rfl, R2.out.up B0.out.size, B2.out⟩
set_option maxRecDepth 10000 in
set_option maxHeartbeats 4000000 in
theorem gdo_else (c r k x y m rr f b d l : Int) (hk : k < 0 ∨ 5 < k) (a : Option Addr) (n cp : Nat) (xs : List Glyph) (w : World) (hl : Cells w a n xs) (hcp : n ≤ cp) (ht : Tabs w) :
    Calls Tryd.prog 42 #[.agg #[.int .i64 c, .int .i64 r, .slice a n cp], .agg #[.int .i64 k, .int .i64 x, .int .i64 y, .int .i64 m, .int .i32 rr, .int .u32 f, .int .u32 b, .int .u8 d, .int .u16 l]] w (RVal (.agg #[.int .i64 c, .int .i64 r, .slice a n cp]) w) := by
  have q0 : (k == 0) = false := beq_eq_false_iff_ne.2 (by omega)
  have q1 : (k == 1) = false := beq_eq_false_iff_ne.2 (by omega)
  have q2 : (k == 2) = false := beq_eq_false_iff_ne.2 (by omega)
  have q3 : (k == 3) = false := beq_eq_false_iff_ne.2 (by omega)
  have q4 : (k == 4) = false := beq_eq_false_iff_ne.2 (by omega)
  have q5 : (k == 5) = false := beq_eq_false_iff_ne.2 (by omega)
  clear hk
  have A0x := Own.new ((w.alloc (.cells #[.int .i64 c, .int .i64 r, .slice a n cp] 49)).alloc (.cells #[.int .i64 k, .int .i64 x, .int .i64 y, .int .i64 m, .int .i32 rr, .int .u32 f, .int .u32 b, .int .u8 d, .int .u16 l] 68)) 49 #[.int .i64 0, .int .i64 0, .slice none 0 0]
  have hA : Own (((w.alloc (.cells #[.int .i64 c, .int .i64 r, .slice a n cp] 49)).alloc (.cells #[.int .i64 k, .int .i64 x, .int .i64 y, .int .i64 m, .int .i32 rr, .int .u32 f, .int .u32 b, .int .u8 d, .int .u16 l] 68)).alloc (.cells #[.int .i64 0, .int .i64 0, .slice none 0 0] 49)) (w.heap.size + 2) 49 #[.int .i64 0, .int .i64 0, .slice none 0 0] := by simpa using A0x
  clear A0x
  obtain rfl := hl.1
  have HL := Lib.hid hl
  have HT := Lib.hid ht
  clear hl ht
  have B0 : Hid (Below w.heap.size w (((w.alloc (.cells #[.int .i64 c, .int .i64 r, .slice a xs.length cp] 49)).alloc (.cells #[.int .i64 k, .int .i64 x, .int .i64 y, .int .i64 m, .int .i32 rr, .int .u32 f, .int .u32 b, .int .u8 d, .int .u16 l] 68)).alloc (.cells #[.int .i64 0, .int .i64 0, .slice none 0 0] 49))) := (((Below.refl _ _).alloc (Nat.le_refl _) _).alloc (by simp) _).alloc (by simp; omega) _
  have G0 : Hid (Own (((w.alloc (.cells #[.int .i64 c, .int .i64 r, .slice a xs.length cp] 49)).alloc (.cells #[.int .i64 k, .int .i64 x, .int .i64 y, .int .i64 m, .int .i32 rr, .int .u32 f, .int .u32 b, .int .u8 d, .int .u16 l] 68)).alloc (.cells #[.int .i64 0, .int .i64 0, .slice none 0 0] 49)) w.heap.size 49 #[.int .i64 c, .int .i64 r, .slice a xs.length cp]) := ((Own.new w 49 _).alloc _).alloc _
  have P0' : Own (((w.alloc (.cells #[.int .i64 c, .int .i64 r, .slice a xs.length cp] 49)).alloc (.cells #[.int .i64 k, .int .i64 x, .int .i64 y, .int .i64 m, .int .i32 rr, .int .u32 f, .int .u32 b, .int .u8 d, .int .u16 l] 68)).alloc (.cells #[.int .i64 0, .int .i64 0, .slice none 0 0] 49)) (w.heap.size + 1) 68 #[.int .i64 k, .int .i64 x, .int .i64 y, .int .i64 m, .int .i32 rr, .int .u32 f, .int .u32 b, .int .u8 d, .int .u16 l] := by
    have h := (Own.new (w.alloc (.cells #[.int .i64 c, .int .i64 r, .slice a xs.length cp] 49)) 68 #[.int .i64 k, .int .i64 x, .int .i64 y, .int .i64 m, .int .i32 rr, .int .u32 f, .int .u32 b, .int .u8 d, .int .u16 l]).alloc (.cells #[.int .i64 0, .int .i64 0, .slice none 0 0] 49)
    simpa using h
  have A0' : Own (((w.alloc (.cells #[.int .i64 c, .int .i64 r, .slice a xs.length cp] 49)).alloc (.cells #[.int .i64 k, .int .i64 x, .int .i64 y, .int .i64 m, .int .i32 rr, .int .u32 f, .int .u32 b, .int .u8 d, .int .u16 l] 68)).alloc (.cells #[.int .i64 0, .int .i64 0, .slice none 0 0] 49)) (w.heap.size + 2) 49 #[.int .i64 0, .int .i64 0, .slice none 0 0] := by
    have h := Own.new ((w.alloc (.cells #[.int .i64 c, .int .i64 r, .slice a xs.length cp] 49)).alloc (.cells #[.int .i64 k, .int .i64 x, .int .i64 y, .int .i64 m, .int .i32 rr, .int .u32 f, .int .u32 b, .int .u8 d, .int .u16 l] 68)) 49 #[.int .i64 0, .int .i64 0, .slice none 0 0]
    simpa using h
  have A0 := Lib.hid A0'
  clear A0'
  have g0 := Own.cell G0.out 0
  have g1 := Own.cell G0.out 1
  have g2 := Own.cell G0.out 2
  simp only [List.getElem?_toArray, List.getElem?_cons_zero, List.getElem?_cons_succ] at g0 g1 g2
  have e0 := Own.cell P0' 0
  have e1 := Own.cell P0' 1
  have e2 := Own.cell P0' 2
  have e3 := Own.cell P0' 3
  have e4 := Own.cell P0' 4
  have e5 := Own.cell P0' 5
  have e6 := Own.cell P0' 6
  have e7 := Own.cell P0' 7
  have e8 := Own.cell P0' 8
  simp only [List.getElem?_toArray, List.getElem?_cons_zero, List.getElem?_cons_succ] at e0 e1 e2 e3 e4 e5 e6 e7 e8
  clear P0'
  go_enter Tryd.func42, Tryd.ntmps42
  go_wp2_with (first
    | (refine gvstore_list rfl _ _ rfl (c := c) (r := r) (sa := a) (sn := xs.length) (sc := cp) rfl rfl hA ?_; intro w2 o2 k2; have O2 := Lib.hid o2; have B2 : Hid (Below w.heap.size w w2) := below_grown B0.out k2 (by omega) B0.out.size; clear o2 k2 hA)
    | go_in)
  clear g0 g1 g2
  have g0 := Own.cell O2.out 0
  have g1 := Own.cell O2.out 1
  have g2 := Own.cell O2.out 2
  simp only [List.getElem?_toArray, List.getElem?_cons_zero, List.getElem?_cons_succ] at g0 g1 g2
  (try simp only [Exit.inBlock, Exit.then])
  refine bodyPost_ret (v := .agg #[.int .i64 c, .int .i64 r, .slice a xs.length cp]) (by simp [results, Tryd.results42, go_sem, g0, g1, g2]) rfl ?_
  exact ⟨rfl, B2.out⟩
end Go.Proofs.YtlhcehealjdbdaaDoor
/- Of any grid and any call the program's answer, and the document's: the same. -/
namespace Go.Proofs.YtlhcehealjdbdaaDoor
open Go.RowKit
set_option linter.unusedSimpArgs false
set_option linter.unusedVariables false
attribute [local go_sem] alloc_drewN setCell_drewN

set_option maxRecDepth 10000 in
set_option maxHeartbeats 4000000 in
theorem want_scroll (c r x y m rr f b d l : Int) (a : Option Addr) (n cp : Nat) (xs : List Glyph) (w : World) (hl : Cells w a n xs) (hcp : n ≤ cp) :
    Calls Tryd.prog 43 #[.agg #[.int .i64 c, .int .i64 r, .slice a n cp], .agg #[.int .i64 4, .int .i64 x, .int .i64 y, .int .i64 m, .int .i32 rr, .int .u32 f, .int .u32 b, .int .u8 d, .int .u16 l]] w (GG (okI c r xs f b c) (okI c r xs f b r) (scrollP c r xs x y m f b) w) := by
  obtain rfl := hl.1
  have HL := Lib.hid hl
  clear hl
  have B0 : Hid (Below w.heap.size w (((w.alloc (.cells #[.int .i64 c, .int .i64 r, .slice a xs.length cp] 49)).alloc (.cells #[.int .i64 4, .int .i64 x, .int .i64 y, .int .i64 m, .int .i32 rr, .int .u32 f, .int .u32 b, .int .u8 d, .int .u16 l] 68)).alloc (.cells #[.int .i64 0, .int .i64 0, .slice none 0 0] 49))) := (((Below.refl _ _).alloc (Nat.le_refl _) _).alloc (by simp) _).alloc (by simp; omega) _
  have G0 : Hid (Own (((w.alloc (.cells #[.int .i64 c, .int .i64 r, .slice a xs.length cp] 49)).alloc (.cells #[.int .i64 4, .int .i64 x, .int .i64 y, .int .i64 m, .int .i32 rr, .int .u32 f, .int .u32 b, .int .u8 d, .int .u16 l] 68)).alloc (.cells #[.int .i64 0, .int .i64 0, .slice none 0 0] 49)) w.heap.size 49 #[.int .i64 c, .int .i64 r, .slice a xs.length cp]) := ((Own.new w 49 _).alloc _).alloc _
  have P0' : Own (((w.alloc (.cells #[.int .i64 c, .int .i64 r, .slice a xs.length cp] 49)).alloc (.cells #[.int .i64 4, .int .i64 x, .int .i64 y, .int .i64 m, .int .i32 rr, .int .u32 f, .int .u32 b, .int .u8 d, .int .u16 l] 68)).alloc (.cells #[.int .i64 0, .int .i64 0, .slice none 0 0] 49)) (w.heap.size + 1) 68 #[.int .i64 4, .int .i64 x, .int .i64 y, .int .i64 m, .int .i32 rr, .int .u32 f, .int .u32 b, .int .u8 d, .int .u16 l] := by
    have h := (Own.new (w.alloc (.cells #[.int .i64 c, .int .i64 r, .slice a xs.length cp] 49)) 68 #[.int .i64 4, .int .i64 x, .int .i64 y, .int .i64 m, .int .i32 rr, .int .u32 f, .int .u32 b, .int .u8 d, .int .u16 l]).alloc (.cells #[.int .i64 0, .int .i64 0, .slice none 0 0] 49)
    simpa using h
  have A0' : Own (((w.alloc (.cells #[.int .i64 c, .int .i64 r, .slice a xs.length cp] 49)).alloc (.cells #[.int .i64 4, .int .i64 x, .int .i64 y, .int .i64 m, .int .i32 rr, .int .u32 f, .int .u32 b, .int .u8 d, .int .u16 l] 68)).alloc (.cells #[.int .i64 0, .int .i64 0, .slice none 0 0] 49)) (w.heap.size + 2) 49 #[.int .i64 0, .int .i64 0, .slice none 0 0] := by
    have h := Own.new ((w.alloc (.cells #[.int .i64 c, .int .i64 r, .slice a xs.length cp] 49)).alloc (.cells #[.int .i64 4, .int .i64 x, .int .i64 y, .int .i64 m, .int .i32 rr, .int .u32 f, .int .u32 b, .int .u8 d, .int .u16 l] 68)) 49 #[.int .i64 0, .int .i64 0, .slice none 0 0]
    simpa using h
  have A0 := Lib.hid A0'
  clear A0'
  have g0 := Own.cell G0.out 0
  have g1 := Own.cell G0.out 1
  have g2 := Own.cell G0.out 2
  simp only [List.getElem?_toArray, List.getElem?_cons_zero, List.getElem?_cons_succ] at g0 g1 g2
  have e0 := Own.cell P0' 0
  have e1 := Own.cell P0' 1
  have e2 := Own.cell P0' 2
  have e3 := Own.cell P0' 3
  have e4 := Own.cell P0' 4
  have e5 := Own.cell P0' 5
  have e6 := Own.cell P0' 6
  have e7 := Own.cell P0' 7
  have e8 := Own.cell P0' 8
  simp only [List.getElem?_toArray, List.getElem?_cons_zero, List.getElem?_cons_succ] at e0 e1 e2 e3 e4 e5 e6 e7 e8
  clear P0'
  go_enter Tryd.func43, Tryd.ntmps43
  go_wp2_with fail
  generalize ((w.alloc (.cells #[.int .i64 c, .int .i64 r, .slice a xs.length cp] 49)).alloc (.cells #[.int .i64 4, .int .i64 x, .int .i64 y, .int .i64 m, .int .i32 rr, .int .u32 f, .int .u32 b, .int .u8 d, .int .u16 l] 68)).alloc (.cells #[.int .i64 0, .int .i64 0, .slice none 0 0] 49) = w0 at B0 G0 A0 g0 g1 g2 e0 e1 e2 e3 e4 e5 e6 e7 e8 ⊢
  clear g0 g1 g2 e0 e1 e2 e3 e4 e5 e6 e7 e8
  have HCALL := Lib.hid (ref_scroll_any c r x y m f b d l a xs.length cp xs w0 (HL.out.below B0.out) hcp)
  refine HCALL.out.mono ?_
  clear HCALL
  obtain ⟨c2, hc2⟩ : ∃ c2, okI c r xs f b c = c2 := ⟨_, rfl⟩
  obtain ⟨r2, hr2⟩ : ∃ r2, okI c r xs f b r = r2 := ⟨_, rfl⟩
  obtain ⟨M, hM⟩ : ∃ M, scrollP c r xs x y m f b = M := ⟨_, rfl⟩
  rw [hc2, hr2, hM]
  have HC2 := Lib.hid hc2
  have HR2 := Lib.hid hr2
  have HM := Lib.hid hM
  clear hc2 hr2 hM
  rintro e w1 ⟨v1, rfl, r1, b1⟩
  obtain ⟨va, vc, rfl, _⟩ := r1.cells
  have R1 := Lib.hid r1
  have B1 : Hid (Below w.heap.size w w1) := B0.out.trans (b1.mono B0.out.size)
  have A1 := Lib.hid (A0.out.below b1 A0.out.lt)
  have ha0 : w.heap.size + 2 < w0.heap.size := A0.out.lt
  clear r1 b1
  have hA := A1.out
  go_wp2_with (first
    | (refine gvstore_list rfl _ _ rfl (sa := va) (sc := vc) rfl rfl hA ?_; intro w2 o2 k2; have O2 := Lib.hid o2; have B2 : Hid (Below w.heap.size w w2) := below_grown B1.out k2 (by omega) B1.out.size; have R2 : Hid (CRow w2 w0.heap.size (.slice va M.length vc) M) := crow_other R1.out k2 (by omega); clear o2 k2 hA)
    | go_in)
  have g0 := Own.cell O2.out 0
  have g1 := Own.cell O2.out 1
  have g2 := Own.cell O2.out 2
  simp only [List.getElem?_toArray, List.getElem?_cons_zero, List.getElem?_cons_succ] at g0 g1 g2
  (try simp only [Exit.inBlock, Exit.then])
  refine bodyPost_ret (v := .agg #[.int .i64 c2, .int .i64 r2, .slice va M.length vc]) (by simp [results, Tryd.results43, go_sem, g0, g1, g2]) rfl ?_
  have hc2 := HC2.out
  have hr2 := HR2.out
  have hM := HM.out
  subst hc2 hr2 hM
  exact ⟨_, rfl, R2.out.up B0.out.size, B2.out⟩

noncomputable def doC (o : Op9) (c r : Int) (xs : List Glyph) : Int := if o.k = 5 then rzI c r xs o.x o.y o.x else okI c r xs o.f o.b c
noncomputable def doR (o : Op9) (c r : Int) (xs : List Glyph) : Int := if o.k = 5 then rzI c r xs o.x o.y o.y else okI c r xs o.f o.b r
noncomputable def doM (o : Op9) (c r : Int) (xs : List Glyph) : List Glyph :=
  if o.k = 5 then resizeP c r xs o.x o.y else if o.k = 4 then scrollP c r xs o.x o.y o.n o.f o.b else if o.k = 3 then clearP c r xs o.x o.n o.f o.b else turnP c r xs o.y o.f o.b (tfo o)
theorem gdo_all (o : Op9) (hk : 0 ≤ o.k ∧ o.k ≤ 5) (c r : Int) (a : Option Addr) (n cp : Nat) (xs : List Glyph) (w : World) (hl : Cells w a n xs) (hcp : n ≤ cp) (ht : Tabs w) :
    Calls Tryd.prog 42 #[.agg #[.int .i64 c, .int .i64 r, .slice a n cp], .agg #[.int .i64 o.k, .int .i64 o.x, .int .i64 o.y, .int .i64 o.n, .int .i32 o.r, .int .u32 o.f, .int .u32 o.b, .int .u8 o.a, .int .u16 o.l]] w (GG (doC o c r xs) (doR o c r xs) (doM o c r xs) w) := by
  by_cases h2 : o.k ≤ 2
  · have e1 : doC o c r xs = okI c r xs o.f o.b c := if_neg (by omega)
    have e2 : doR o c r xs = okI c r xs o.f o.b r := if_neg (by omega)
    have e3 : doM o c r xs = turnP c r xs o.y o.f o.b (tfo o) := by unfold doM; rw [if_neg (by omega), if_neg (by omega), if_neg (by omega)]
    rw [e1, e2, e3]
    exact gdo_turn c r o ⟨hk.1, h2⟩ a n cp xs w hl hcp ht
  · obtain ⟨k, x, y, m, rr, f, b, d, l⟩ := o
    simp only at hk h2 ⊢
    have hk3 : k = 3 ∨ k = 4 ∨ k = 5 := by omega
    rcases hk3 with rfl | rfl | rfl
    · exact gdo_clear c r x y m rr f b d l a n cp xs w hl hcp ht
    · exact gdo_scroll c r x y m rr f b d l a n cp xs w hl hcp ht
    · exact gdo_resize c r x y m rr f b d l a n cp xs w hl hcp ht
theorem want_all (o : Op9) (hk : 0 ≤ o.k ∧ o.k ≤ 5) (c r : Int) (a : Option Addr) (n cp : Nat) (xs : List Glyph) (w : World) (hl : Cells w a n xs) (hcp : n ≤ cp) :
    Calls Tryd.prog 43 #[.agg #[.int .i64 c, .int .i64 r, .slice a n cp], .agg #[.int .i64 o.k, .int .i64 o.x, .int .i64 o.y, .int .i64 o.n, .int .i32 o.r, .int .u32 o.f, .int .u32 o.b, .int .u8 o.a, .int .u16 o.l]] w (GG (doC o c r xs) (doR o c r xs) (doM o c r xs) w) := by
  obtain ⟨k, x, y, m, rr, f, b, d, l⟩ := o
  simp only at hk ⊢
  have hk3 : k = 0 ∨ k = 1 ∨ k = 2 ∨ k = 3 ∨ k = 4 ∨ k = 5 := by omega
  rcases hk3 with rfl | rfl | rfl | rfl | rfl | rfl
  · exact want_do0 c r x y m rr f b d l a n cp xs w hl hcp
  · exact want_do1 c r x y m rr f b d l a n cp xs w hl hcp
  · exact want_do2 c r x y m rr f b d l a n cp xs w hl hcp
  · exact want_clear c r x y m rr f b d l a n cp xs w hl hcp
  · exact want_scroll c r x y m rr f b d l a n cp xs w hl hcp
  · exact want_resize c r x y m rr f b d l a n cp xs w hl hcp
end Go.Proofs.YtlhcehealjdbdaaDoor
/- What a call leaves of a grid that may be: nothing, or a grid that may be. -/
namespace Go.Proofs.YtlhcehealjdbdaaDoor
open Go.RowKit
set_option linter.unusedSimpArgs false
set_option linter.unusedVariables false

theorem doc_row {C C2 : Nat} {l : List Glyph} (h : RowOk l) (hl : l.length = C) (h1 : 1 ≤ C2) (h8 : C2 ≤ 80) : RowOk (docRow C2 l (min C C2)) := by
  refine ⟨by rw [doc_len]; exact h1, by rw [doc_len]; exact h8, fun i hi => ?_⟩
  rw [doc_len] at hi
  unfold CellOk
  rw [doc_len]
  by_cases hK : i < min C C2
  · obtain ⟨q1, q2, q3⟩ := h.2.2 i (by omega)
    by_cases hc : (at_ l i).w = 1 ∧ i + 1 = C2
    · have e : at_ (docRow C2 l (min C C2)) i = blank (at_ l i).b := by rw [doc_at hi, if_pos hK, if_pos hc]
      rw [e]
      exact ⟨blank_may (gmay_pen q1), fun k => absurd k (show (0 : Int) ≠ 1 by decide), fun k => absurd k (show (0 : Int) ≠ 2 by decide)⟩
    · have e : at_ (docRow C2 l (min C C2)) i = at_ l i := by rw [doc_at hi, if_pos hK, if_neg hc]
      rw [e]
      refine ⟨q1, fun k => ?_, fun k => ?_⟩
      · obtain ⟨a1, a2, a3⟩ := q2 k
        have hne : i + 1 ≠ C2 := fun z => hc ⟨k, z⟩
        have e2 : at_ (docRow C2 l (min C C2)) (i + 1) = at_ l (i + 1) := by rw [doc_at (by omega), if_pos (by omega), if_neg (fun z => by rw [a2] at z; exact absurd z.1 (by decide))]
        rw [e2]
        exact ⟨by omega, a2, a3⟩
      · obtain ⟨a1, a2⟩ := q3 k
        have e2 : at_ (docRow C2 l (min C C2)) (i - 1) = at_ l (i - 1) := by rw [doc_at (by omega), if_pos (by omega), if_neg (fun z => by omega)]
        rw [e2]
        exact ⟨a1, a2⟩
  · have e : at_ (docRow C2 l (min C C2)) i = blank 0 := by rw [doc_at hi, if_neg hK]
    rw [e]
    exact ⟨by decide +kernel, fun k => absurd k (by decide), fun k => absurd k (by decide)⟩
theorem rz_ok {C R C2 R2 : Nat} {xs : List Glyph} (h : GridOk C R xs) (h1 : 1 ≤ C2) (h8 : C2 ≤ 80) (r1 : 1 ≤ R2) (r24 : R2 ≤ 24) : GridOk C2 R2 (rzF C C2 R2 xs (min R R2)) := by
  refine ⟨h1, h8, r1, r24, rzF_len h.2.2.2.2.1 _ (by omega) (by omega), fun z hz => ?_⟩
  rw [rz_rows h h1 _ (by omega) (by omega) z hz]
  split
  · exact doc_row (h.2.2.2.2.2 z (by omega)) (row_len h.2.2.2.2.1 (by omega)) h1 h8
  · exact rep_row (f := 0) h1 h8 pen0
noncomputable def pC (o : Op9) (c r : Int) (xs : List Glyph) : Int := if 0 ≤ o.k ∧ o.k ≤ 5 then doC o c r xs else c
noncomputable def pR (o : Op9) (c r : Int) (xs : List Glyph) : Int := if 0 ≤ o.k ∧ o.k ≤ 5 then doR o c r xs else r
noncomputable def pM (o : Op9) (c r : Int) (xs : List Glyph) : List Glyph := if 0 ≤ o.k ∧ o.k ≤ 5 then doM o c r xs else xs
theorem pM_ok {C R : Nat} {xs : List Glyph} (o : Op9) (h : GridOk C R xs) : pM o C R xs = [] ∨ ∃ C2 R2 : Nat, pC o C R xs = C2 ∧ pR o C R xs = R2 ∧ GridOk C2 R2 (pM o C R xs) := by
  have hm : gridMay C R xs = true := gmay_iff.2 ⟨C, R, rfl, rfl, h⟩
  unfold pM pC pR
  by_cases hk : 0 ≤ o.k ∧ o.k ≤ 5
  · rw [if_pos hk, if_pos hk, if_pos hk]
    unfold doM doC doR
    by_cases h5 : o.k = 5
    · rw [if_pos h5, if_pos h5, if_pos h5]
      unfold resizeP rzI
      cases hf : fitsB o.x o.y with
      | false => exact .inl rfl
      | true =>
        rw [hm]
        have hf2 := fits_iff.1 hf
        obtain ⟨C2, hC2⟩ : ∃ C2 : Nat, o.x = C2 := ⟨o.x.toNat, by omega⟩
        obtain ⟨R2, hR2⟩ : ∃ R2 : Nat, o.y = R2 := ⟨o.y.toNat, by omega⟩
        rw [hC2, hR2] at hf2 ⊢
        exact .inr ⟨C2, R2, rfl, rfl, by simpa using rz_ok h (by omega) (by omega) (by omega) (by omega)⟩
    · rw [if_neg h5, if_neg h5, if_neg h5]
      cases hp : penMay o.f o.b with
      | false =>
        left
        have hno : ¬ ((gridMay C R xs && penMay o.f o.b) = true) := by rw [hp, Bool.and_false]; decide
        unfold scrollP clearP turnP
        rw [if_neg hno, if_neg hno, if_neg hno]
        split
        · rfl
        · split
          · rfl
          · rfl
      | true =>
        right
        have hok : (gridMay C R xs && penMay o.f o.b) = true := by rw [hm, hp]; rfl
        refine ⟨C, R, by unfold okI; rw [if_pos hok], by unfold okI; rw [if_pos hok], ?_⟩
        by_cases h4 : o.k = 4
        · rw [if_pos h4]
          unfold scrollP
          rw [if_pos hok]
          split
          · exact h
          · rename_i hs
            obtain ⟨T, hT⟩ : ∃ T : Nat, o.x = T := ⟨o.x.toNat, by omega⟩
            obtain ⟨B, hB⟩ : ∃ B : Nat, o.y = B := ⟨o.y.toNat, by omega⟩
            rw [hT, hB] at hs ⊢
            exact scrF_ok h hp (by omega) _ (by omega)
        · rw [if_neg h4]
          by_cases h3 : o.k = 3
          · rw [if_pos h3]
            unfold clearP
            rw [if_pos hok]
            exact clF_ok h hp _ (by simp)
          · rw [if_neg h3]
            unfold turnP
            rw [if_pos hok]
            split
            · rename_i hy
              have hy2 : o.y.toNat < R := by omega
              obtain ⟨q1, q2⟩ := tfo_row (o := o) hp (h.2.2.2.2.2 o.y.toNat hy2)
              exact set_ok h hy2 (q2.trans (row_len h.2.2.2.2.1 hy2)) q1
            · exact h
  · rw [if_neg hk, if_neg hk, if_neg hk]
    exact .inr ⟨C, R, rfl, rfl, h⟩
end Go.Proofs.YtlhcehealjdbdaaDoor
