/- What the document makes of a row and a call. -/
import Derived.Test.YtlhcehealjdbdaaDoorDo
import Derived.Test.YtlhcehealjdbdaaDoorRefPut
import Derived.Test.YtlhcehealjdbdaaDoorRefErase
import Derived.Test.YtlhcehealjdbdaaDoorRefInsert
import Derived.Test.YtlhcehealjdbdaaDoorRefDelete
namespace Go.Proofs.YtlhcehealjdbdaaDoor
open Go.RowKit
set_option linter.unusedSimpArgs false
set_option linter.unusedVariables false
attribute [local go_sem] alloc_drewN setCell_drewN

set_option maxRecDepth 10000 in
set_option maxHeartbeats 2000000 in
theorem want_any (a : Option Addr) (n c : Nat) (o : Op8) (hk : 0 ≤ o.k ∧ o.k ≤ 3) (xs : List Glyph) (w : World) (hl : Cells w a n xs) : Calls Tryd.prog 30 #[.slice a n c, .agg #[.int .i64 o.k, .int .i64 o.x, .int .i64 o.n, .int .i32 o.r, .int .u32 o.f, .int .u32 o.b, .int .u8 o.a, .int .u16 o.l]] w (GPost (doP xs o) w) := by
  obtain rfl := hl.1
  have HL := Lib.hid hl
  clear hl
  have B0 : Hid (Below w.heap.size w (w.alloc (.cells #[.int .i64 o.k, .int .i64 o.x, .int .i64 o.n, .int .i32 o.r, .int .u32 o.f, .int .u32 o.b, .int .u8 o.a, .int .u16 o.l] 43))) := (Below.refl _ _).alloc (Nat.le_refl _) _
  have P0 : Hid (Own (w.alloc (.cells #[.int .i64 o.k, .int .i64 o.x, .int .i64 o.n, .int .i32 o.r, .int .u32 o.f, .int .u32 o.b, .int .u8 o.a, .int .u16 o.l] 43)) w.heap.size 43 #[.int .i64 o.k, .int .i64 o.x, .int .i64 o.n, .int .i32 o.r, .int .u32 o.f, .int .u32 o.b, .int .u8 o.a, .int .u16 o.l]) := Own.new w 43 _
  have hlt : w.heap.size < (w.alloc (.cells #[.int .i64 o.k, .int .i64 o.x, .int .i64 o.n, .int .i32 o.r, .int .u32 o.f, .int .u32 o.b, .int .u8 o.a, .int .u16 o.l] 43)).heap.size := by simp
  obtain ⟨k, x, n, r, f, b, pa, pl⟩ := o
  obtain ⟨hk0, hk3⟩ := hk
  rcases (by simp only at hk0 hk3; omega : k = 0 ∨ k = 1 ∨ k = 2 ∨ k = 3) with rfl | rfl | rfl | rfl
  · have HF : Hid (doP xs ⟨0, x, n, r, f, b, pa, pl⟩ = putW xs x r f b pa pl) := put_want
    go_enter Tryd.func30, Tryd.ntmps30
    go_wp2_with fail
    refine (ref_put_any a xs.length c x r f b pa pl xs _ (HL.out.below B0.out)).mono ?_
    rintro e w1 ⟨v1, rfl, r1, b1⟩
    have R1 := Lib.hid r1
    have B1 : Hid (Below w.heap.size w w1) := B0.out.trans (b1.mono B0.out.size)
    clear r1 b1
    go_wp2_with fail
    go_ret
    exact ⟨_, rfl, by rw [HF.out]; exact R1.out.up B0.out.size, B1.out⟩
  · have HF : Hid (doP xs ⟨1, x, n, r, f, b, pa, pl⟩ = eraseW xs x n f b) := erase_want
    go_enter Tryd.func30, Tryd.ntmps30
    go_wp2_with fail
    refine (ref_erase_any a xs.length c x n f b pa pl xs _ (HL.out.below B0.out)).mono ?_
    rintro e w1 ⟨v1, rfl, r1, b1⟩
    have R1 := Lib.hid r1
    have B1 : Hid (Below w.heap.size w w1) := B0.out.trans (b1.mono B0.out.size)
    clear r1 b1
    go_wp2_with fail
    go_ret
    exact ⟨_, rfl, by rw [HF.out]; exact R1.out.up B0.out.size, B1.out⟩
  · have HF : Hid (doP xs ⟨2, x, n, r, f, b, pa, pl⟩ = insertW xs x n f b) := insert_want
    go_enter Tryd.func30, Tryd.ntmps30
    go_wp2_with fail
    refine (ref_insert_any a xs.length c x n f b pa pl xs _ (HL.out.below B0.out)).mono ?_
    rintro e w1 ⟨v1, rfl, r1, b1⟩
    have R1 := Lib.hid r1
    have B1 : Hid (Below w.heap.size w w1) := B0.out.trans (b1.mono B0.out.size)
    clear r1 b1
    go_wp2_with fail
    go_ret
    exact ⟨_, rfl, by rw [HF.out]; exact R1.out.up B0.out.size, B1.out⟩
  · have HF : Hid (doP xs ⟨3, x, n, r, f, b, pa, pl⟩ = deleteW xs x n f b) := delete_want
    go_enter Tryd.func30, Tryd.ntmps30
    go_wp2_with fail
    refine (ref_delete_any a xs.length c x n f b pa pl xs _ (HL.out.below B0.out)).mono ?_
    rintro e w1 ⟨v1, rfl, r1, b1⟩
    have R1 := Lib.hid r1
    have B1 : Hid (Below w.heap.size w w1) := B0.out.trans (b1.mono B0.out.size)
    clear r1 b1
    go_wp2_with fail
    go_ret
    exact ⟨_, rfl, by rw [HF.out]; exact R1.out.up B0.out.size, B1.out⟩
theorem want_else (a : Option Addr) (n c : Nat) (o : Op8) (hk : o.k < 0 ∨ 3 < o.k) (w : World) : Calls Tryd.prog 30 #[.slice a n c, .agg #[.int .i64 o.k, .int .i64 o.x, .int .i64 o.n, .int .i32 o.r, .int .u32 o.f, .int .u32 o.b, .int .u8 o.a, .int .u16 o.l]] w (RVal (.slice a n c) w) := by
  have B0 : Hid (Below w.heap.size w (w.alloc (.cells #[.int .i64 o.k, .int .i64 o.x, .int .i64 o.n, .int .i32 o.r, .int .u32 o.f, .int .u32 o.b, .int .u8 o.a, .int .u16 o.l] 43))) := (Below.refl _ _).alloc (Nat.le_refl _) _
  obtain ⟨k, x, m, r, f, b, pa, pl⟩ := o
  simp only at hk
  have d0 : (k == 0) = false := beq_eq_false_iff_ne.2 (by omega)
  have d1 : (k == 1) = false := beq_eq_false_iff_ne.2 (by omega)
  have d2 : (k == 2) = false := beq_eq_false_iff_ne.2 (by omega)
  have d3 : (k == 3) = false := beq_eq_false_iff_ne.2 (by omega)
  clear hk
  go_enter Tryd.func30, Tryd.ntmps30
  go_wp2_with fail
  go_ret
  exact ⟨rfl, B0.out⟩
end Go.Proofs.YtlhcehealjdbdaaDoor
