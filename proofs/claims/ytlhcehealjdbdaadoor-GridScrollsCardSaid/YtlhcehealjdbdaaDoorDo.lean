/- What the program makes of a row and a call. -/
import Derived.Test.YtlhcehealjdbdaaDoorPut
import Derived.Test.YtlhcehealjdbdaaDoorErase
import Derived.Test.YtlhcehealjdbdaaDoorInsert
import Derived.Test.YtlhcehealjdbdaaDoorDelete
namespace Go.Proofs.YtlhcehealjdbdaaDoor
open Go.RowKit
set_option linter.unusedSimpArgs false
set_option linter.unusedVariables false
attribute [local go_sem] alloc_drewN setCell_drewN


/-- A call: its kind, its place, its count, its rune, its pen. -/
structure Op8 where
  k : Int
  x : Int
  n : Int
  r : Int
  f : Int
  b : Int
  a : Int
  l : Int
noncomputable def doP (xs : List Glyph) (o : Op8) : List Glyph :=
  if o.k = 0 then putP xs o.x o.r o.f o.b o.a o.l else if o.k = 1 then eraseP xs o.x o.n o.f o.b else if o.k = 2 then insertP xs o.x o.n o.f o.b else if o.k = 3 then deleteP xs o.x o.n o.f o.b else xs
set_option maxRecDepth 10000 in
set_option maxHeartbeats 2000000 in
theorem do_any (a : Option Addr) (n c : Nat) (o : Op8) (hk : 0 ≤ o.k ∧ o.k ≤ 3) (xs : List Glyph) (w : World) (hl : Cells w a n xs) (ht : Tabs w) : Calls Tryd.prog 29 #[.slice a n c, .agg #[.int .i64 o.k, .int .i64 o.x, .int .i64 o.n, .int .i32 o.r, .int .u32 o.f, .int .u32 o.b, .int .u8 o.a, .int .u16 o.l]] w (GPost (doP xs o) w) := by
  obtain rfl := hl.1
  have HL := Lib.hid hl
  have HT := Lib.hid ht
  clear hl ht
  have B0 : Hid (Below w.heap.size w (w.alloc (.cells #[.int .i64 o.k, .int .i64 o.x, .int .i64 o.n, .int .i32 o.r, .int .u32 o.f, .int .u32 o.b, .int .u8 o.a, .int .u16 o.l] 43))) := (Below.refl _ _).alloc (Nat.le_refl _) _
  have P0 : Hid (Own (w.alloc (.cells #[.int .i64 o.k, .int .i64 o.x, .int .i64 o.n, .int .i32 o.r, .int .u32 o.f, .int .u32 o.b, .int .u8 o.a, .int .u16 o.l] 43)) w.heap.size 43 #[.int .i64 o.k, .int .i64 o.x, .int .i64 o.n, .int .i32 o.r, .int .u32 o.f, .int .u32 o.b, .int .u8 o.a, .int .u16 o.l]) := Own.new w 43 _
  have hlt : w.heap.size < (w.alloc (.cells #[.int .i64 o.k, .int .i64 o.x, .int .i64 o.n, .int .i32 o.r, .int .u32 o.f, .int .u32 o.b, .int .u8 o.a, .int .u16 o.l] 43)).heap.size := by simp
  obtain ⟨k, x, n, r, f, b, pa, pl⟩ := o
  obtain ⟨hk0, hk3⟩ := hk
  rcases (by simp only at hk0 hk3; omega : k = 0 ∨ k = 1 ∨ k = 2 ∨ k = 3) with rfl | rfl | rfl | rfl
  · have HF : Hid (doP xs ⟨0, x, n, r, f, b, pa, pl⟩ = putP xs x r f b pa pl) := rfl
    go_enter Tryd.func29, Tryd.ntmps29
    go_wp2_with fail
    refine (put_any a xs.length c x r f b pa pl xs _ (HL.out.below B0.out) (HT.out.below B0.out)).mono ?_
    rintro e w1 ⟨v1, rfl, r1, b1⟩
    have R1 := Lib.hid r1
    have B1 : Hid (Below w.heap.size w w1) := B0.out.trans (b1.mono B0.out.size)
    clear r1 b1
    go_wp2_with fail
    go_ret
    exact ⟨_, rfl, by rw [HF.out]; exact R1.out.up B0.out.size, B1.out⟩
  · have HF : Hid (doP xs ⟨1, x, n, r, f, b, pa, pl⟩ = eraseP xs x n f b) := rfl
    go_enter Tryd.func29, Tryd.ntmps29
    go_wp2_with fail
    refine (erase_any a xs.length c x n f b pa pl xs _ (HL.out.below B0.out) (HT.out.below B0.out)).mono ?_
    rintro e w1 ⟨v1, rfl, r1, b1⟩
    have R1 := Lib.hid r1
    have B1 : Hid (Below w.heap.size w w1) := B0.out.trans (b1.mono B0.out.size)
    clear r1 b1
    go_wp2_with fail
    go_ret
    exact ⟨_, rfl, by rw [HF.out]; exact R1.out.up B0.out.size, B1.out⟩
  · have HF : Hid (doP xs ⟨2, x, n, r, f, b, pa, pl⟩ = insertP xs x n f b) := rfl
    go_enter Tryd.func29, Tryd.ntmps29
    go_wp2_with fail
    refine (insert_any a xs.length c x n f b pa pl xs _ (HL.out.below B0.out) (HT.out.below B0.out)).mono ?_
    rintro e w1 ⟨v1, rfl, r1, b1⟩
    have R1 := Lib.hid r1
    have B1 : Hid (Below w.heap.size w w1) := B0.out.trans (b1.mono B0.out.size)
    clear r1 b1
    go_wp2_with fail
    go_ret
    exact ⟨_, rfl, by rw [HF.out]; exact R1.out.up B0.out.size, B1.out⟩
  · have HF : Hid (doP xs ⟨3, x, n, r, f, b, pa, pl⟩ = deleteP xs x n f b) := rfl
    go_enter Tryd.func29, Tryd.ntmps29
    go_wp2_with fail
    refine (delete_any a xs.length c x n f b pa pl xs _ (HL.out.below B0.out) (HT.out.below B0.out)).mono ?_
    rintro e w1 ⟨v1, rfl, r1, b1⟩
    have R1 := Lib.hid r1
    have B1 : Hid (Below w.heap.size w w1) := B0.out.trans (b1.mono B0.out.size)
    clear r1 b1
    go_wp2_with fail
    go_ret
    exact ⟨_, rfl, by rw [HF.out]; exact R1.out.up B0.out.size, B1.out⟩
theorem do_else (a : Option Addr) (n c : Nat) (o : Op8) (hk : o.k < 0 ∨ 3 < o.k) (w : World) : Calls Tryd.prog 29 #[.slice a n c, .agg #[.int .i64 o.k, .int .i64 o.x, .int .i64 o.n, .int .i32 o.r, .int .u32 o.f, .int .u32 o.b, .int .u8 o.a, .int .u16 o.l]] w (RVal (.slice a n c) w) := by
  have B0 : Hid (Below w.heap.size w (w.alloc (.cells #[.int .i64 o.k, .int .i64 o.x, .int .i64 o.n, .int .i32 o.r, .int .u32 o.f, .int .u32 o.b, .int .u8 o.a, .int .u16 o.l] 43))) := (Below.refl _ _).alloc (Nat.le_refl _) _
  obtain ⟨k, x, m, r, f, b, pa, pl⟩ := o
  simp only at hk
  have d0 : (k == 0) = false := beq_eq_false_iff_ne.2 (by omega)
  have d1 : (k == 1) = false := beq_eq_false_iff_ne.2 (by omega)
  have d2 : (k == 2) = false := beq_eq_false_iff_ne.2 (by omega)
  have d3 : (k == 3) = false := beq_eq_false_iff_ne.2 (by omega)
  clear hk
  go_enter Tryd.func29, Tryd.ntmps29
  go_wp2_with fail
  go_ret
  exact ⟨rfl, B0.out⟩
end Go.Proofs.YtlhcehealjdbdaaDoor
