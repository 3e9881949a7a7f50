/- Blanks from a place up to another one. -/
import Derived.Test.YtlhcehealjdbdaaDoorPut
import Derived.Deep.DeepCutAuto
namespace Go.Proofs.YtlhcehealjdbdaaDoor
open Go.RowKit
set_option linter.unusedSimpArgs false
set_option linter.unusedVariables false
attribute [local go_sem] alloc_drewN setCell_drewN


/-- k cells from a on are d. -/
def fillP (ys : List Glyph) (a : Nat) (d : Glyph) : Nat → List Glyph
  | 0 => ys
  | k + 1 => (fillP ys a d k).set (a + k) d
theorem fillP_len (ys : List Glyph) (a : Nat) (d : Glyph) : ∀ k, (fillP ys a d k).length = ys.length
  | 0 => rfl
  | k + 1 => by rw [fillP, List.length_set, fillP_len ys a d k]
/-- The fill's loop: k blanks are laid. -/
def FillRel (w : World) (base g n c : Nat) (ys : List Glyph) (S : Nat) (b f d l : Int) (k : Nat) (wr : World) : Prop :=
  CRow wr base (.slice (some ⟨g, 0, none⟩) n c) (fillP ys S (blank b) k) ∧ Own wr w.heap.size 26 #[.int .u32 f, .int .u32 b, .int .u8 d, .int .u16 l] ∧ Below w.heap.size w wr ∧ base ≤ wr.heap.size
theorem FillRel.below {w : World} {base g n c : Nat} {ys : List Glyph} {S : Nat} {b f d l : Int} {k : Nat} {w1 w2 : World} (h : FillRel w base g n c ys S b f d l k w1) (hb : Below w1.heap.size w1 w2) (hz : w.heap.size ≤ w1.heap.size) (hlt : w.heap.size < w1.heap.size) : FillRel w base g n c ys S b f d l k w2 :=
  ⟨h.1.below hb, h.2.1.below hb hlt, h.2.2.1.trans (hb.mono hz), Nat.le_trans h.2.2.2 hb.size⟩
theorem FillRel.next {w : World} {base g n c : Nat} {ys : List Glyph} {S : Nat} {b f d l : Int} {q : Nat} {w1 w2 : World} (h : FillRel w base g n c ys S b f d l (q - S) w1) (hq : S ≤ q) (hr : CRow w2 base (.slice (some ⟨g, 0, none⟩) n c) ((fillP ys S (blank b) (q - S)).set q (blank b))) (hg : w1.grownBy w2 (some g)) (hne : some w.heap.size ≠ some g) (hbg : w.heap.size ≤ g) : FillRel w base g n c ys S b f d l (q + 1 - S) w2 := by
  have e : q + 1 - S = (q - S) + 1 := by omega
  refine ⟨?_, h.2.1.grown hg hne, below_grown h.2.2.1 hg hbg h.2.2.1.size, Nat.le_trans h.2.2.2 hg.size⟩
  rw [e, fillP, Nat.add_sub_cancel' hq]
  exact hr
theorem FillRel.next1 {w : World} {base g n c : Nat} {ys : List Glyph} {S : Nat} {b f d l : Int} {q : Nat} {w1 w2 : World} (h : FillRel w base g n c ys S b f d l q w1) (hr : CRow w2 base (.slice (some ⟨g, 0, none⟩) n c) ((fillP ys S (blank b) q).set (S + q) (blank b))) (hg : w1.grownBy w2 (some g)) (hne : some w.heap.size ≠ some g) (hbg : w.heap.size ≤ g) : FillRel w base g n c ys S b f d l (q + 1) w2 :=
  ⟨hr, h.2.1.grown hg hne, below_grown h.2.2.1 hg hbg h.2.2.1.size, Nat.le_trans h.2.2.2 hg.size⟩
noncomputable def eraseP (xs : List Glyph) (s t : Int) (f b : Int) : List Glyph :=
  if (rowMay xs && penMay f b) = true then
    if min t xs.length ≤ max 0 s then xs
    else fillP (cutP (cutP xs (max 0 s).toNat) (min t xs.length).toNat) (max 0 s).toNat (blank b) ((min t xs.length).toNat - (max 0 s).toNat)
  else []
set_option maxRecDepth 10000 in
set_option maxHeartbeats 2000000 in
theorem erase_any (a : Option Addr) (n c : Nat) (s t f b d l : Int) (xs : List Glyph) (w : World) (hl : Cells w a n xs) (ht : Tabs w) : Calls Tryd.prog 50 #[.slice a n c, .int .i64 s, .int .i64 t, .agg #[.int .u32 f, .int .u32 b, .int .u8 d, .int .u16 l]] w (GPost (eraseP xs s t f b) w) := by
  obtain rfl := hl.1
  have HL := Lib.hid hl
  have HT := Lib.hid ht
  clear hl ht
  obtain ⟨ok, hok⟩ : ∃ ok, (rowMay xs && penMay f b) = ok := ⟨_, rfl⟩
  have HOK := Lib.hid hok
  have B0 : Hid (Below w.heap.size w (w.alloc (.cells #[.int .u32 f, .int .u32 b, .int .u8 d, .int .u16 l] 26))) := (Below.refl _ _).alloc (Nat.le_refl _) _
  have P0 : Hid (Own (w.alloc (.cells #[.int .u32 f, .int .u32 b, .int .u8 d, .int .u16 l] 26)) w.heap.size 26 #[.int .u32 f, .int .u32 b, .int .u8 d, .int .u16 l]) := Own.new w 26 _
  have hlt : w.heap.size < (w.alloc (.cells #[.int .u32 f, .int .u32 b, .int .u8 d, .int .u16 l] 26)).heap.size := by simp
  go_enter Tryd.func50, Tryd.ntmps50
  go_wp2_with fail
  generalize w.alloc (.cells #[.int .u32 f, .int .u32 b, .int .u8 d, .int .u16 l] 26) = w0 at B0 P0 hlt ⊢
  have HO := own_any a xs.length c f b d l xs w0 (HL.out.below B0.out) (HT.out.below B0.out)
  rw [HOK.out] at HO
  refine HO.mono ?_
  clear HO
  rintro e w1 ⟨v1, rfl, r1, b1⟩
  have B1 : Hid (Below w.heap.size w w1) := B0.out.trans (b1.mono B0.out.size)
  have P1 : Hid (Own w1 w.heap.size 26 #[.int .u32 f, .int .u32 b, .int .u8 d, .int .u16 l]) := P0.out.below b1 hlt
  have hz1 : w0.heap.size ≤ w1.heap.size := b1.size
  clear b1
  cases ok with
  | false =>
    have HF : Hid (eraseP xs s t f b = []) := by unfold eraseP; rw [hok]; rfl
    have R1 : Hid (CRow w1 w.heap.size v1 []) := CRow.up r1 B0.out.size
    clear r1 hok
    obtain ⟨na, nc, rfl, _⟩ := R1.out.cells
    obtain ⟨S, hS⟩ : ∃ S : Nat, max 0 s = S := ⟨(max 0 s).toNat, by omega⟩
    obtain ⟨T', hT'⟩ : ∃ T' : Int, min t 0 = T' := ⟨_, rfl⟩
    have HS := Lib.hid hS
    have HT' := Lib.hid hT'
    clear hS hT'
    go_upto_region 2 with fail
    go_cut [1, 2] (fun v1 v2 wc => v1 = .int .i64 S ∧ v2 = .int .i64 T' ∧ w1 = wc)
    case first =>
      have hS := HS.out
      have hT' := HT'.out
      go_wp2_with fail
      all_goals (go_meet; exact ⟨congrArg (Value.int .i64) (by omega), congrArg (Value.int .i64) (by simp at *; omega), rfl⟩)
    case rest =>
      obtain ⟨rfl, rfl, rfl⟩ := hcut
      go_wp2_with fail
      go_ret
      exact ⟨_, rfl, by rw [HF.out]; exact R1.out, B1.out⟩
  | true =>
    obtain ⟨ga, gc, rfl, _⟩ := (show CRow w1 w0.heap.size v1 xs from r1).cells
    have R1 : Hid (CRow w1 w0.heap.size (.slice ga xs.length gc) xs) := r1
    have hn8 := (row_iff.1 (Bool.and_eq_true_iff.1 hok).1).2.1
    have hn1 := (row_iff.1 (Bool.and_eq_true_iff.1 hok).1).1
    clear r1
    obtain ⟨S, hS⟩ : ∃ S : Nat, max 0 s = S := ⟨(max 0 s).toNat, by omega⟩
    obtain ⟨T', hT'⟩ : ∃ T' : Int, min t xs.length = T' := ⟨_, rfl⟩
    have HS := Lib.hid hS
    have HT' := Lib.hid hT'
    clear hS hT'
    go_upto_region 2 with fail
    go_cut [1, 2] (fun v1 v2 wc => v1 = .int .i64 S ∧ v2 = .int .i64 T' ∧ w1 = wc)
    case first =>
      have hS := HS.out
      have hT' := HT'.out
      go_wp2_with fail
      all_goals (go_meet; exact ⟨congrArg (Value.int .i64) (by omega), congrArg (Value.int .i64) (by omega), rfl⟩)
    case rest =>
      obtain ⟨rfl, rfl, rfl⟩ := hcut
      by_cases hge : T' ≤ S
      · have HF : Hid (eraseP xs s t f b = xs) := by unfold eraseP; rw [hok, if_pos rfl, if_pos (by rw [HS.out, HT'.out]; exact hge)]; rfl
        have hd : decide (T' ≤ (S : Int)) = true := decide_eq_true hge
        clear hge hok
        go_wp2_with fail
        go_ret
        exact ⟨_, rfl, by rw [HF.out]; exact R1.out.up B0.out.size, B1.out⟩
      · have hTn : T' ≤ xs.length := by have := HT'.out; omega
        obtain ⟨T, rfl⟩ : ∃ T : Nat, T' = T := ⟨T'.toNat, by omega⟩
        have HF : Hid (eraseP xs s t f b = fillP (cutP (cutP xs S) T) S (blank b) (T - S)) := by unfold eraseP; rw [hok, if_pos rfl, if_neg (by rw [HS.out, HT'.out]; exact hge), HS.out, HT'.out]; rfl
        have hST : S < T := by omega
        have hTn' : T ≤ xs.length := by omega
        obtain ⟨g, rfl⟩ := crow_addr R1.out (by omega)
        have hbg : w0.heap.size ≤ g := (crow_at R1.out (k := 0) (by omega)).2.1
        have hne : some w.heap.size ≠ some g := fun e => by injection e with e; omega
        have HOKT := Lib.hid hok
        clear hge hok hTn
        go_wp2_with fail
        refine (cut_as w0.heap.size g xs.length gc (S) (xs) _ R1.out hn8 (by omega) rfl).mono ?_
        rintro e w2 ⟨rfl, r2, g2⟩
        have R2 := Lib.hid r2
        have B2 : Hid (Below w.heap.size w w2) := below_grown B1.out g2 (by omega) B1.out.size
        have P2 : Hid (Own w2 w.heap.size 26 #[.int .u32 f, .int .u32 b, .int .u8 d, .int .u16 l]) := P1.out.grown g2 hne
        have hz2 : w0.heap.size ≤ w2.heap.size := Nat.le_trans hz1 g2.size
        clear r2 g2
        go_wp2_with fail
        refine (cut_as w0.heap.size g xs.length gc (T) (cutP xs S) _ R2.out hn8 (by omega) rfl).mono ?_
        rintro e w3 ⟨rfl, r3, g3⟩
        have R3 := Lib.hid r3
        have B3 : Hid (Below w.heap.size w w3) := below_grown B2.out g3 (by omega) B2.out.size
        have P3 : Hid (Own w3 w.heap.size 26 #[.int .u32 f, .int .u32 b, .int .u8 d, .int .u16 l]) := P2.out.grown g3 hne
        have hz3 : w0.heap.size ≤ w3.heap.size := Nat.le_trans hz2 g3.size
        clear r3 g3
        obtain ⟨Y, hY⟩ : ∃ Y, cutP (cutP xs S) T = Y := ⟨_, rfl⟩
        rw [hY] at R3 HF
        clear hY
        clear R2 P2 B2 hz2 R1 P1 B1 hz1
        have HL0 : Hid (FillRel w w0.heap.size g xs.length gc Y S b f d l 0 w3) := ⟨R3.out, P3.out, B3.out, hz3⟩
        clear R3 P3 B3 hz3
        go_wp2_with fail
        go_loopw [10] (fun v wr => ∃ q : Nat, S ≤ q ∧ q ≤ T ∧ v = .int .i64 q ∧ Hid (FillRel w w0.heap.size g xs.length gc Y S b f d l (q - S) wr)) (fun v _ => T - (intOf v).toNat)
        case atStart => exact ⟨S, Nat.le_refl _, by omega, rfl, by rw [Nat.sub_self]; exact HL0⟩
        case round =>
          obtain ⟨q, hq0, hq1, rfl, HR⟩ := hrel
          clear HL0
          by_cases hq : q < T
          · have hqn : q < xs.length := by omega
            have hi0 : (0 : Int) ≤ (q : Int) := by omega
            have hi1 : (q : Int) < (xs.length : Int) := by omega
            have e0 := Own.cell HR.out.2.1 0
            have e1 := Own.cell HR.out.2.1 1
            have e2 := Own.cell HR.out.2.1 2
            have e3 := Own.cell HR.out.2.1 3
            simp only [List.getElem?_toArray, List.getElem?_cons_zero, List.getElem?_cons_succ] at e0 e1 e2 e3
            go_wp2_with fail
            refine (blank_any f b d l _).mono ?_
            rintro e wx ⟨rfl, bx⟩
            have HX : Hid (FillRel w w0.heap.size g xs.length gc Y S b f d l (q - S) wx) := HR.out.below bx (by have := HR.out.2.2.2; omega) (by have := HR.out.2.2.2; omega)
            clear bx HR
            go_wp2_with (first
              | (refine gstore_list rfl _ _ rfl (d := blank b) rfl rfl HX.out.1 hqn ?_; intro wy r5 g5; have HY' : Hid (FillRel w w0.heap.size g xs.length gc Y S b f d l (q + 1 - S) wy) := HX.out.next hq0 r5 g5 hne (by omega); clear r5 g5 e0 e1 e2 e3)
              | go_in)
            go_roundw
            case rel => exact ⟨q + 1, by omega, by omega, by go_num, HY'⟩
            case measure => simp [intOf]; omega
          · obtain rfl : q = T := by omega
            clear hq
            go_wp2_with fail
            go_ret
            exact ⟨_, rfl, by rw [HF.out]; exact HR.out.1.up B0.out.size, HR.out.2.2.1⟩
end Go.Proofs.YtlhcehealjdbdaaDoor
