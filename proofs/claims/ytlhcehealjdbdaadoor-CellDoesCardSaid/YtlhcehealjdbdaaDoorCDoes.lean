/- Of any row and any call the answer is the document's; what is handed in stays: the law's walk. -/
import Derived.Test.YtlhcehealjdbdaaDoorWant
import Derived.Test.YtlhcehealjdbdaaDoorFixed
import Derived.Deep.DeepCutAuto
namespace Go.Proofs.YtlhcehealjdbdaaDoor
open Go.RowKit
set_option linter.unusedSimpArgs false
set_option linter.unusedVariables false
attribute [local go_sem] alloc_drewN setCell_drewN


section
variable {o : Oper} {a : Act} {w : World} {Q : Exit → Act → World → Prop}
theorem grune_run {base g n c k : Nat} {xs : List Glyph} {z : Glyph} (u : Int) (hr : CRow w base (.slice (some ⟨g, 0, none⟩) n c) xs) (hk : k < n) (hz : xs.getD k g0 = z) :
    ∃ w', (Instr.storeAt 21 (.pointer (some ⟨g, k * 6, none⟩)) (.int .i32 u)).run Tryd.prog w = .ok () w' ∧
      CRow w' base (.slice (some ⟨g, 0, none⟩) n c) (xs.set k ⟨u, z.w, z.f, z.b, z.a, z.l⟩) ∧ w.grownBy w' (some g) := by
  subst hz
  obtain ⟨⟨p0, _⟩, hbg, hfz⟩ := crow_at hr hk
  have f0 := hfz (k * 6)
  refine ⟨_, ?_, crow_put (j := 0) (d := ⟨u, (xs.getD k g0).w, (xs.getD k g0).f, (xs.getD k g0).b, (xs.getD k g0).a, (xs.getD k g0).l⟩) (u := .int .i32 u) hr hk (by omega) rfl, turn_store (turn_refl w _) _ _⟩
  go_simp
theorem grune_list {ops : Array Oper} {rest : List Oper} (hgd : o.guard = none) (p v : Operand) (ho : o.op = .store 21 p v) {base g n c k : Nat} {xs : List Glyph} {z : Glyph} {u : Int} (hp : a.eval p = .pointer (some ⟨g, k * 6, none⟩)) (hv : a.eval v = .int .i32 u)
    (hr : CRow w base (.slice (some ⟨g, 0, none⟩) n c) xs) (hk : k < n) (hz : xs.getD k g0 = z) (h : ∀ w', CRow w' base (.slice (some ⟨g, 0, none⟩) n c) (xs.set k ⟨u, z.w, z.f, z.b, z.a, z.l⟩) → w.grownBy w' (some g) → wpList Tryd.prog ops Q rest (a.put o.dst undef) w') : wpList Tryd.prog ops Q (o :: rest) a w := by
  refine wpList_plain hgd fun K hK => ?_
  obtain ⟨w', hrun, h1, h2⟩ := grune_run u hr hk hz
  unfold Oper.wp execOp
  simp only [ho, hp, hv, Sem.run_bind, hrun, Result.andThen_ok]
  simp only [Sem.run_pure, Oper.upon]
  exact hK _ _ (h w' h1 h2)
end
theorem doP_len {xs : List Glyph} {o : Op8} {m : Nat} (h : xs.length ≤ m) : (doP xs o).length ≤ m := by
  unfold doP
  by_cases hok : (rowMay xs && penMay o.f o.b) = true
  · split
    · rw [put_len hok]; exact h
    · split
      · rw [erase_len hok]; exact h
      · split
        · rw [insert_len hok]; exact h
        · split
          · rw [delete_len hok]; exact h
          · exact h
  · unfold putP eraseP insertP deleteP
    rw [if_neg hok, if_neg hok, if_neg hok, if_neg hok]
    split
    · exact Nat.zero_le _
    · split
      · exact Nat.zero_le _
      · split
        · exact Nat.zero_le _
        · split
          · exact Nat.zero_le _
          · exact h
def DRel (w1 : World) (base : Nat) (v : Value) (n : Nat) (wr : World) : Prop := ∃ Z : List Glyph, Z.length = n ∧ CRow wr base v Z ∧ Below w1.heap.size w1 wr
set_option maxRecDepth 10000 in
set_option maxHeartbeats 4000000 in
theorem celldoes_walk (a : Option Addr) (n c : Nat) (o : Op8) (xs : List Glyph) (w : World) (hl : Cells w a n xs) (ht : Tabs w) : Calls Tryd.prog 5 #[.slice a n c, .agg #[.int .i64 o.k, .int .i64 o.x, .int .i64 o.n, .int .i32 o.r, .int .u32 o.f, .int .u32 o.b, .int .u8 o.a, .int .u16 o.l]] w (RVal (.bool true) w) := by
  obtain rfl := hl.1
  have HL := Lib.hid hl
  have HT := Lib.hid ht
  clear hl ht
  obtain ⟨k, x, n, r, f, b, pa, pl⟩ := o
  have B0 : Hid (Below w.heap.size w (w.alloc (.cells #[.int .i64 k, .int .i64 x, .int .i64 n, .int .i32 r, .int .u32 f, .int .u32 b, .int .u8 pa, .int .u16 pl] 43))) := (Below.refl _ _).alloc (Nat.le_refl _) _
  have P0 : Hid (Own (w.alloc (.cells #[.int .i64 k, .int .i64 x, .int .i64 n, .int .i32 r, .int .u32 f, .int .u32 b, .int .u8 pa, .int .u16 pl] 43)) w.heap.size 43 #[.int .i64 k, .int .i64 x, .int .i64 n, .int .i32 r, .int .u32 f, .int .u32 b, .int .u8 pa, .int .u16 pl]) := Own.new w 43 _
  have hz0 : w.heap.size < (w.alloc (.cells #[.int .i64 k, .int .i64 x, .int .i64 n, .int .i32 r, .int .u32 f, .int .u32 b, .int .u8 pa, .int .u16 pl] 43)).heap.size := by simp
  cases hb : decide ((1000 : Int) < xs.length) with
  | true =>
    go_enter Tryd.func5, Tryd.ntmps5
    go_wp2_with fail
    refine (fixed_any _ (HT.out.below B0.out)).mono ?_
    rintro e w1 ⟨rfl, b1⟩
    have B1 : Hid (Below w.heap.size w w1) := B0.out.trans (b1.mono B0.out.size)
    clear b1
    go_wp2_with fail
    go_ret
    exact ⟨rfl, B1.out⟩
  | false =>
  cases hk0 : decide (k < 0) with
  | true =>
    go_enter Tryd.func5, Tryd.ntmps5
    go_wp2_with fail
    refine (fixed_any _ (HT.out.below B0.out)).mono ?_
    rintro e w1 ⟨rfl, b1⟩
    have B1 : Hid (Below w.heap.size w w1) := B0.out.trans (b1.mono B0.out.size)
    clear b1
    go_wp2_with fail
    go_ret
    exact ⟨rfl, B1.out⟩
  | false =>
  cases hk3 : decide (3 < k) with
  | true =>
    go_enter Tryd.func5, Tryd.ntmps5
    go_wp2_with fail
    refine (fixed_any _ (HT.out.below B0.out)).mono ?_
    rintro e w1 ⟨rfl, b1⟩
    have B1 : Hid (Below w.heap.size w w1) := B0.out.trans (b1.mono B0.out.size)
    clear b1
    go_wp2_with fail
    go_ret
    exact ⟨rfl, B1.out⟩
  | false =>
    have hkk : 0 ≤ k ∧ k ≤ 3 := ⟨by have := of_decide_eq_false hk0; omega, by have := of_decide_eq_false hk3; omega⟩
    have hn : xs.length ≤ 1000 := by have := of_decide_eq_false hb; omega
    obtain ⟨M, hM⟩ : ∃ M, doP xs ⟨k, x, n, r, f, b, pa, pl⟩ = M := ⟨_, rfl⟩
    have HM := Lib.hid hM
    have hML : M.length ≤ 1000 := by
      rw [← hM]
      exact doP_len hn
    clear hM
    go_enter Tryd.func5, Tryd.ntmps5
    go_wp2_with fail
    refine (gcopy_any a xs.length c xs _ (HL.out.below B0.out) (by omega)).mono ?_
    generalize w.alloc (.cells #[.int .i64 k, .int .i64 x, .int .i64 n, .int .i32 r, .int .u32 f, .int .u32 b, .int .u8 pa, .int .u16 pl] 43) = w0 at B0 P0 hz0 ⊢
    rintro e w1 ⟨v1, rfl, r1, b1⟩
    obtain ⟨oa, oc, rfl, _⟩ := r1.cells
    have R1 : Hid (CRow w1 w0.heap.size (.slice oa xs.length oc) xs) := r1
    have B1 : Hid (Below w.heap.size w w1) := B0.out.trans (b1.mono B0.out.size)
    have P1 := Lib.hid (P0.out.below b1 hz0)
    have hz1 : w.heap.size < w1.heap.size := Nat.lt_of_lt_of_le hz0 b1.size
    clear r1 b1
    have e0 := Own.cell P1.out 0
    have e1 := Own.cell P1.out 1
    have e2 := Own.cell P1.out 2
    have e3 := Own.cell P1.out 3
    have e4 := Own.cell P1.out 4
    have e5 := Own.cell P1.out 5
    have e6 := Own.cell P1.out 6
    have e7 := Own.cell P1.out 7
    simp only [List.getElem?_toArray, List.getElem?_cons_zero, List.getElem?_cons_succ] at e0 e1 e2 e3 e4 e5 e6 e7
    go_wp2_with fail
    refine (do_any oa xs.length oc ⟨k, x, n, r, f, b, pa, pl⟩ hkk xs w1 (cells_of R1.out) (HT.out.below B1.out)).mono ?_
    rw [HM.out]
    rintro e w2 ⟨v2, rfl, r2, b2⟩
    obtain ⟨ma, mc, rfl, _⟩ := r2.cells
    have R2 : Hid (CRow w2 w1.heap.size (.slice ma M.length mc) M) := r2
    have D2 := Lib.hid b2
    have B2 : Hid (Below w.heap.size w w2) := B1.out.trans (b2.mono B1.out.size)
    have P2 := Lib.hid (P1.out.below b2 hz1)
    have hz2 : w.heap.size < w2.heap.size := Nat.lt_of_lt_of_le hz1 b2.size
    clear r2 b2 e0 e1 e2 e3 e4 e5 e6 e7
    go_wp2_with fail
    refine (fixed_any _ (HT.out.below B2.out)).mono ?_
    rintro e w3 ⟨rfl, b3⟩
    have R3 := Lib.hid (R2.out.below b3)
    have D3 : Hid (Below w1.heap.size w1 w3) := D2.out.trans (b3.mono D2.out.size)
    have B3 : Hid (Below w.heap.size w w3) := B2.out.trans (b3.mono B2.out.size)
    have P3 := Lib.hid (P2.out.below b3 hz2)
    have hz3 : w.heap.size < w3.heap.size := Nat.lt_of_lt_of_le hz2 b3.size
    clear b3
    have e0 := Own.cell P3.out 0
    have e1 := Own.cell P3.out 1
    have e2 := Own.cell P3.out 2
    have e3 := Own.cell P3.out 3
    have e4 := Own.cell P3.out 4
    have e5 := Own.cell P3.out 5
    have e6 := Own.cell P3.out 6
    have e7 := Own.cell P3.out 7
    simp only [List.getElem?_toArray, List.getElem?_cons_zero, List.getElem?_cons_succ] at e0 e1 e2 e3 e4 e5 e6 e7
    go_wp2_with fail
    refine (want_any a xs.length c ⟨k, x, n, r, f, b, pa, pl⟩ hkk xs w3 (HL.out.below B3.out)).mono ?_
    rw [HM.out]
    rintro e w4 ⟨v4, rfl, r4, b4⟩
    obtain ⟨wa, wc, rfl, _⟩ := r4.cells
    have R4 : Hid (CRow w4 w3.heap.size (.slice wa M.length wc) M) := r4
    have R3' := Lib.hid (R3.out.below b4)
    have D4 : Hid (Below w1.heap.size w1 w4) := D3.out.trans (b4.mono D3.out.size)
    have B4 : Hid (Below w.heap.size w w4) := B3.out.trans (b4.mono B3.out.size)
    clear r4 b4 e0 e1 e2 e3 e4 e5 e6 e7
    go_wp2_with fail
    refine (gsame_any ma wa M.length mc M.length wc M M _ (cells_of R3'.out) (cells_of R4.out)).mono ?_
    rintro e w5 ⟨he5, q5, hq5⟩
    obtain rfl : e = .returned (.bool true) := by rw [he5, decide_eq_true rfl]
    have b5 : Below w4.heap.size w4 w5 := by rw [← hq5]; exact below_drewN (Below.refl _ _) q5
    have HL0 : Hid (DRel w1 w1.heap.size (.slice ma M.length mc) M.length w5) := ⟨M, rfl, R3'.out.below b5, D4.out.trans (b5.mono D4.out.size)⟩
    clear he5 hq5 b5 R4 R3' D4 B4
    go_wp2_with fail
    go_loopw [39] (fun v wr => ∃ q : Nat, q ≤ M.length ∧ v = .int .i64 q ∧ Hid (DRel w1 w1.heap.size (.slice ma M.length mc) M.length wr)) (fun v _ => M.length - (intOf v).toNat)
    case atStart => exact ⟨0, by omega, rfl, HL0⟩
    case round =>
      obtain ⟨q, hq1, rfl, HR⟩ := hrel
      clear HL0
      by_cases hq : q < M.length
      · obtain ⟨Z, hzl, hzr, hzb⟩ := HR.out
        obtain ⟨g, rfl⟩ := crow_addr hzr (by omega)
        have hi0 : (0 : Int) ≤ (q : Int) := by omega
        have hi1 : (q : Int) < (M.length : Int) := by omega
        have HQ : Hid (q < M.length) := hq
        have hdq : decide (q < M.length) = true := decide_eq_true hq
        obtain ⟨z, hz⟩ : ∃ z, Z.getD q g0 = z := ⟨_, rfl⟩
        have hga := crow_at hzr hq
        rw [hz] at hga
        obtain ⟨⟨e0, _⟩, hbg, _⟩ := hga
        have HZ := Lib.hid hz
        have HZL := Lib.hid hzl
        have HZR := Lib.hid hzr
        have HZB := Lib.hid hzb
        clear hz hzl hzr hzb
        go_wp2_with (first
          | (refine grune_list rfl _ _ rfl rfl rfl HZR.out HQ.out HZ.out ?_; intro wy r5 g5; have HY : Hid (DRel w1 w1.heap.size (.slice (some ⟨g, 0, none⟩) M.length mc) M.length wy) := ⟨_, by rw [List.length_set]; exact HZL.out, r5, below_grown HZB.out g5 hbg HZB.out.size⟩; clear r5 g5 e0)
          | go_in)
        go_roundw
        case rel => exact ⟨q + 1, HQ.out, by go_num, HY⟩
        case measure => have := HQ.out; simp [intOf]; omega
      · have hdq : decide (q < M.length) = false := decide_eq_false hq
        obtain ⟨Z, _, _, hzb⟩ := HR.out
        have HZB := Lib.hid hzb
        have R9 := Lib.hid (R1.out.below hzb)
        have B9 : Hid (Below w.heap.size w wr) := B1.out.trans (hzb.mono B1.out.size)
        clear hzb
        go_wp2_with fail
        refine (gsame_any oa a xs.length oc xs.length c xs xs _ (cells_of R9.out) (HL.out.below B9.out)).mono ?_
        rintro e w5 ⟨he5, q5, hq5⟩
        obtain rfl : e = .returned (.bool true) := by rw [he5, decide_eq_true rfl]
        have b5 : Below wr.heap.size wr w5 := by rw [← hq5]; exact below_drewN (Below.refl _ _) q5
        have B10 : Hid (Below w.heap.size w w5) := B9.out.trans (b5.mono B9.out.size)
        clear he5 hq5 b5
        go_wp2_with fail
        go_ret
        exact ⟨rfl, B10.out⟩
end Go.Proofs.YtlhcehealjdbdaaDoor
