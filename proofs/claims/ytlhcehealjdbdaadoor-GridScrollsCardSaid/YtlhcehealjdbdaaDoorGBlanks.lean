/- A row of blanks, as the document lays it. -/
import Derived.Test.YtlhcehealjdbdaaDoorGScroll
import Derived.Deep.DeepCutAuto
namespace Go.Proofs.YtlhcehealjdbdaaDoor
open Go.RowKit
set_option linter.unusedSimpArgs false
set_option linter.unusedVariables false
attribute [local go_sem] alloc_drewN setCell_drewN


theorem fillP_rep2 {n : Nat} {d : Glyph} : fillP (List.replicate n g0) 0 d n = List.replicate n d := by
  refine gext (by rw [fillP_len, List.length_replicate, List.length_replicate]) fun j hj => ?_
  rw [fillP_len, List.length_replicate] at hj
  show at_ (fillP (List.replicate n g0) 0 d n) j = at_ (List.replicate n d) j
  rw [fill_at (by simp), if_pos (by omega)]
  unfold at_
  rw [List.getD_eq_getElem?_getD, List.getElem?_replicate, if_pos hj]
  rfl
def BRel (w : World) (g : Nat) (f b d l : Int) (n q : Nat) (wr : World) : Prop := CRow wr (w.heap.size + 1) (.slice (some ⟨g, 0, none⟩) n n) (fillP (List.replicate n g0) 0 (blank b) q) ∧ Own wr w.heap.size 26 #[.int .u32 f, .int .u32 b, .int .u8 d, .int .u16 l] ∧ Below w.heap.size w wr
set_option maxRecDepth 10000 in
set_option maxHeartbeats 2000000 in
theorem blanks_any (n : Nat) (hn : n ≤ 80) (f b d l : Int) (w : World) : Calls Tryd.prog 36 #[.int .i64 n, .agg #[.int .u32 f, .int .u32 b, .int .u8 d, .int .u16 l]] w (GPost (List.replicate n (blank b)) w) := by
  have B0 : Hid (Below w.heap.size w (w.alloc (.cells #[.int .u32 f, .int .u32 b, .int .u8 d, .int .u16 l] 26))) := (Below.refl _ _).alloc (Nat.le_refl _) _
  have P0 : Hid (Own (w.alloc (.cells #[.int .u32 f, .int .u32 b, .int .u8 d, .int .u16 l] 26)) w.heap.size 26 #[.int .u32 f, .int .u32 b, .int .u8 d, .int .u16 l]) := Own.new w 26 _
  have hz0 : (w.alloc (.cells #[.int .u32 f, .int .u32 b, .int .u8 d, .int .u16 l] 26)).heap.size = w.heap.size + 1 := by simp
  go_enter Tryd.func36, Tryd.ntmps36
  go_upto_region 1 with fail
  generalize w.alloc (.cells #[.int .u32 f, .int .u32 b, .int .u8 d, .int .u16 l] 26) = w0 at B0 P0 hz0 ⊢
  go_wp2_with (first
    | (at_make; refine wpList_make_full _ rfl _ _ 29 rfl w0.heap.size 28 _ _ 6 Tryd.underlying29 ginfoE gzeroE (by kernel_rfl) .i64 .i64 _ _ n rfl rfl rfl rfl (by rw [gbytes]; omega) (by unfold maxLen; omega) (Nat.le_refl _) ?_; intro w1 o1 g1; have R1 := Lib.hid (gmake_row o1); have D1 := gbelow_none g1; have B1 : Hid (Below w.heap.size w w1) := B0.out.trans (D1.mono B0.out.size); have P1 := Lib.hid (P0.out.below D1 (by omega)); clear o1 g1 D1)
    | go_in)
  have HL0 : Hid (BRel w (w.heap.size + 1) f b d l n 0 w1) := ⟨by have h := R1.out; rw [hz0] at h; exact h, P1.out, B1.out⟩
  clear R1 P1 B1 B0 P0 hz0
  go_loopw [11] (fun v wr => ∃ q : Nat, q ≤ n ∧ v = .int .i64 q ∧ Hid (BRel w (w.heap.size + 1) f b d l n q wr)) (fun v _ => n - (intOf v).toNat)
  case atStart => exact ⟨0, by omega, rfl, HL0⟩
  case round =>
    obtain ⟨q, hq1, rfl, HR⟩ := hrel
    clear HL0
    by_cases hqn : q < n
    · have hi0 : (0 : Int) ≤ (q : Int) := by omega
      have hi1 : (q : Int) < (n : Int) := by omega
      have e0 := Own.cell HR.out.2.1 0
      have e1 := Own.cell HR.out.2.1 1
      have e2 := Own.cell HR.out.2.1 2
      have e3 := Own.cell HR.out.2.1 3
      simp only [List.getElem?_toArray, List.getElem?_cons_zero, List.getElem?_cons_succ] at e0 e1 e2 e3
      go_wp2_with fail
      refine (ref_blank_any f b d l _).mono ?_
      rintro e wx ⟨rfl, bx⟩
      have HX : Hid (BRel w (w.heap.size + 1) f b d l n q wx) := ⟨HR.out.1.below bx, HR.out.2.1.below bx HR.out.2.1.lt, HR.out.2.2.trans (bx.mono HR.out.2.2.size)⟩
      clear bx HR e0 e1 e2 e3
      go_wp2_with (first
        | (refine gstore_list rfl _ _ rfl (d := blank b) rfl rfl HX.out.1 hqn ?_; intro wy r5 g5; have HY : Hid (BRel w (w.heap.size + 1) f b d l n (q + 1) wy) := ⟨by rw [fillP, Nat.zero_add]; exact r5, HX.out.2.1.grown g5 (by intro e; injection e with e; omega), below_grown HX.out.2.2 g5 (by omega) HX.out.2.2.size⟩; clear r5 g5)
        | go_in)
      go_roundw
      case rel => exact ⟨q + 1, by omega, by go_num, HY⟩
      case measure => simp [intOf]; omega
    · obtain rfl : q = n := by omega
      clear hqn
      go_wp2_with fail
      go_ret
      exact ⟨_, rfl, by rw [← fillP_rep2]; exact HR.out.1.up (by omega), HR.out.2.2⟩
end Go.Proofs.YtlhcehealjdbdaaDoor
