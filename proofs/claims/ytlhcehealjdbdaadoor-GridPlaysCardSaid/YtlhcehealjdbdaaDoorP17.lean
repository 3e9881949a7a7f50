/- Part 17 of the texts that GridPlays stands on, one behind the other. -/
import Derived.Test.YtlhcehealjdbdaaDoorP13
import Derived.Test.YtlhcehealjdbdaaDoorP14
import Derived.Test.YtlhcehealjdbdaaDoorP16
import Derived.Deep.DeepCutAuto
import Derived.Test.YtlhcehealjdbdaaDoorP9
import Derived.Test.YtlhcehealjdbdaaDoorP10
/- What the document makes of a grid and a call. -/
namespace Go.Proofs.YtlhcehealjdbdaaDoor
open Go.RowKit
set_option linter.unusedSimpArgs false
set_option linter.unusedVariables false
attribute [local go_sem] alloc_drewN setCell_drewN

set_option maxRecDepth 10000 in
set_option maxHeartbeats 4000000 in
theorem want_do0 (c r x y m rr f b d l : Int) (a : Option Addr) (n cp : Nat) (xs : List Glyph) (w : World) (hl : Cells w a n xs) (hcp : n ≤ cp) :
    Calls Tryd.prog 43 #[.agg #[.int .i64 c, .int .i64 r, .slice a n cp], .agg #[.int .i64 0, .int .i64 x, .int .i64 y, .int .i64 m, .int .i32 rr, .int .u32 f, .int .u32 b, .int .u8 d, .int .u16 l]] w (GG (okI c r xs f b c) (okI c r xs f b r) (turnP c r xs y f b (fun l' => putP l' x rr f b d l)) w) := by
  obtain rfl := hl.1
  have HL := Lib.hid hl
  clear hl
  have B0 : Hid (Below w.heap.size w (((w.alloc (.cells #[.int .i64 c, .int .i64 r, .slice a xs.length cp] 49)).alloc (.cells #[.int .i64 0, .int .i64 x, .int .i64 y, .int .i64 m, .int .i32 rr, .int .u32 f, .int .u32 b, .int .u8 d, .int .u16 l] 68)).alloc (.cells #[.int .i64 0, .int .i64 0, .slice none 0 0] 49))) := (((Below.refl _ _).alloc (Nat.le_refl _) _).alloc (by simp) _).alloc (by simp; omega) _
  have G0 : Hid (Own (((w.alloc (.cells #[.int .i64 c, .int .i64 r, .slice a xs.length cp] 49)).alloc (.cells #[.int .i64 0, .int .i64 x, .int .i64 y, .int .i64 m, .int .i32 rr, .int .u32 f, .int .u32 b, .int .u8 d, .int .u16 l] 68)).alloc (.cells #[.int .i64 0, .int .i64 0, .slice none 0 0] 49)) w.heap.size 49 #[.int .i64 c, .int .i64 r, .slice a xs.length cp]) := ((Own.new w 49 _).alloc _).alloc _
  have P0' : Own (((w.alloc (.cells #[.int .i64 c, .int .i64 r, .slice a xs.length cp] 49)).alloc (.cells #[.int .i64 0, .int .i64 x, .int .i64 y, .int .i64 m, .int .i32 rr, .int .u32 f, .int .u32 b, .int .u8 d, .int .u16 l] 68)).alloc (.cells #[.int .i64 0, .int .i64 0, .slice none 0 0] 49)) (w.heap.size + 1) 68 #[.int .i64 0, .int .i64 x, .int .i64 y, .int .i64 m, .int .i32 rr, .int .u32 f, .int .u32 b, .int .u8 d, .int .u16 l] := by
    have h := (Own.new (w.alloc (.cells #[.int .i64 c, .int .i64 r, .slice a xs.length cp] 49)) 68 #[.int .i64 0, .int .i64 x, .int .i64 y, .int .i64 m, .int .i32 rr, .int .u32 f, .int .u32 b, .int .u8 d, .int .u16 l]).alloc (.cells #[.int .i64 0, .int .i64 0, .slice none 0 0] 49)
    simpa using h
  have A0' : Own (((w.alloc (.cells #[.int .i64 c, .int .i64 r, .slice a xs.length cp] 49)).alloc (.cells #[.int .i64 0, .int .i64 x, .int .i64 y, .int .i64 m, .int .i32 rr, .int .u32 f, .int .u32 b, .int .u8 d, .int .u16 l] 68)).alloc (.cells #[.int .i64 0, .int .i64 0, .slice none 0 0] 49)) (w.heap.size + 2) 49 #[.int .i64 0, .int .i64 0, .slice none 0 0] := by
    have h := Own.new ((w.alloc (.cells #[.int .i64 c, .int .i64 r, .slice a xs.length cp] 49)).alloc (.cells #[.int .i64 0, .int .i64 x, .int .i64 y, .int .i64 m, .int .i32 rr, .int .u32 f, .int .u32 b, .int .u8 d, .int .u16 l] 68)) 49 #[.int .i64 0, .int .i64 0, .slice none 0 0]
    simpa using h
  have A0 := Lib.hid A0'
  clear A0'
  have g0 := Own.cell G0.out 0
  have g1 := Own.cell G0.out 1
  have g2 := Own.cell G0.out 2
  simp only [List.getElem?_toArray, List.getElem?_cons_zero, List.getElem?_cons_succ] at g0 g1 g2
  have e0 := Own.cell P0' 0
  have e1 := Own.cell P0' 1
  have e2 := Own.cell P0' 2
  have e3 := Own.cell P0' 3
  have e4 := Own.cell P0' 4
  have e5 := Own.cell P0' 5
  have e6 := Own.cell P0' 6
  have e7 := Own.cell P0' 7
  have e8 := Own.cell P0' 8
  simp only [List.getElem?_toArray, List.getElem?_cons_zero, List.getElem?_cons_succ] at e0 e1 e2 e3 e4 e5 e6 e7 e8
  clear P0'
  go_enter Tryd.func43, Tryd.ntmps43
  go_wp2_with fail
  generalize ((w.alloc (.cells #[.int .i64 c, .int .i64 r, .slice a xs.length cp] 49)).alloc (.cells #[.int .i64 0, .int .i64 x, .int .i64 y, .int .i64 m, .int .i32 rr, .int .u32 f, .int .u32 b, .int .u8 d, .int .u16 l] 68)).alloc (.cells #[.int .i64 0, .int .i64 0, .slice none 0 0] 49) = w0 at B0 G0 A0 g0 g1 g2 e0 e1 e2 e3 e4 e5 e6 e7 e8 ⊢
  clear g0 g1 g2 e0 e1 e2 e3 e4 e5 e6 e7 e8
  have HCALL := Lib.hid (ref_do0_any c r x y m rr f b d l a xs.length cp xs w0 (HL.out.below B0.out) hcp)
  refine HCALL.out.mono ?_
  clear HCALL
  obtain ⟨c2, hc2⟩ : ∃ c2, okI c r xs f b c = c2 := ⟨_, rfl⟩
  obtain ⟨r2, hr2⟩ : ∃ r2, okI c r xs f b r = r2 := ⟨_, rfl⟩
  obtain ⟨M, hM⟩ : ∃ M, turnP c r xs y f b (fun l' => putP l' x rr f b d l) = M := ⟨_, rfl⟩
  rw [hc2, hr2, hM]
  have HC2 := Lib.hid hc2
  have HR2 := Lib.hid hr2
  have HM := Lib.hid hM
  clear hc2 hr2 hM
  rintro e w1 ⟨v1, rfl, r1, b1⟩
  obtain ⟨va, vc, rfl, _⟩ := r1.cells
  have R1 := Lib.hid r1
  have B1 : Hid (Below w.heap.size w w1) := B0.out.trans (b1.mono B0.out.size)
  have A1 := Lib.hid (A0.out.below b1 A0.out.lt)
  have ha0 : w.heap.size + 2 < w0.heap.size := A0.out.lt
  clear r1 b1
  have hA := A1.out
  go_wp2_with (first
    | (refine gvstore_list rfl _ _ rfl (sa := va) (sc := vc) rfl rfl hA ?_; intro w2 o2 k2; have O2 := Lib.hid o2; have B2 : Hid (Below w.heap.size w w2) := below_grown B1.out k2 (by omega) B1.out.size; have R2 : Hid (CRow w2 w0.heap.size (.slice va M.length vc) M) := crow_other R1.out k2 (by omega); clear o2 k2 hA)
    | go_in)
  have g0 := Own.cell O2.out 0
  have g1 := Own.cell O2.out 1
  have g2 := Own.cell O2.out 2
  simp only [List.getElem?_toArray, List.getElem?_cons_zero, List.getElem?_cons_succ] at g0 g1 g2
  (try simp only [Exit.inBlock, Exit.then])
  refine bodyPost_ret (v := .agg #[.int .i64 c2, .int .i64 r2, .slice va M.length vc]) (by simp [results, Tryd.results43, go_sem, g0, g1, g2]) rfl ?_
  have hc2 := HC2.out
  have hr2 := HR2.out
  have hM := HM.out
  subst hc2 hr2 hM
  exact ⟨_, rfl, R2.out.up B0.out.size, B2.out⟩
set_option maxRecDepth 10000 in
set_option maxHeartbeats 4000000 in
theorem want_do1 (c r x y m rr f b d l : Int) (a : Option Addr) (n cp : Nat) (xs : List Glyph) (w : World) (hl : Cells w a n xs) (hcp : n ≤ cp) :
    Calls Tryd.prog 43 #[.agg #[.int .i64 c, .int .i64 r, .slice a n cp], .agg #[.int .i64 1, .int .i64 x, .int .i64 y, .int .i64 m, .int .i32 rr, .int .u32 f, .int .u32 b, .int .u8 d, .int .u16 l]] w (GG (okI c r xs f b c) (okI c r xs f b r) (turnP c r xs y f b (fun l' => insertP l' x m f b)) w) := by
  obtain rfl := hl.1
  have HL := Lib.hid hl
  clear hl
  have B0 : Hid (Below w.heap.size w (((w.alloc (.cells #[.int .i64 c, .int .i64 r, .slice a xs.length cp] 49)).alloc (.cells #[.int .i64 1, .int .i64 x, .int .i64 y, .int .i64 m, .int .i32 rr, .int .u32 f, .int .u32 b, .int .u8 d, .int .u16 l] 68)).alloc (.cells #[.int .i64 0, .int .i64 0, .slice none 0 0] 49))) := (((Below.refl _ _).alloc (Nat.le_refl _) _).alloc (by simp) _).alloc (by simp; omega) _
  have G0 : Hid (Own (((w.alloc (.cells #[.int .i64 c, .int .i64 r, .slice a xs.length cp] 49)).alloc (.cells #[.int .i64 1, .int .i64 x, .int .i64 y, .int .i64 m, .int .i32 rr, .int .u32 f, .int .u32 b, .int .u8 d, .int .u16 l] 68)).alloc (.cells #[.int .i64 0, .int .i64 0, .slice none 0 0] 49)) w.heap.size 49 #[.int .i64 c, .int .i64 r, .slice a xs.length cp]) := ((Own.new w 49 _).alloc _).alloc _
  have P0' : Own (((w.alloc (.cells #[.int .i64 c, .int .i64 r, .slice a xs.length cp] 49)).alloc (.cells #[.int .i64 1, .int .i64 x, .int .i64 y, .int .i64 m, .int .i32 rr, .int .u32 f, .int .u32 b, .int .u8 d, .int .u16 l] 68)).alloc (.cells #[.int .i64 0, .int .i64 0, .slice none 0 0] 49)) (w.heap.size + 1) 68 #[.int .i64 1, .int .i64 x, .int .i64 y, .int .i64 m, .int .i32 rr, .int .u32 f, .int .u32 b, .int .u8 d, .int .u16 l] := by
    have h := (Own.new (w.alloc (.cells #[.int .i64 c, .int .i64 r, .slice a xs.length cp] 49)) 68 #[.int .i64 1, .int .i64 x, .int .i64 y, .int .i64 m, .int .i32 rr, .int .u32 f, .int .u32 b, .int .u8 d, .int .u16 l]).alloc (.cells #[.int .i64 0, .int .i64 0, .slice none 0 0] 49)
    simpa using h
  have A0' : Own (((w.alloc (.cells #[.int .i64 c, .int .i64 r, .slice a xs.length cp] 49)).alloc (.cells #[.int .i64 1, .int .i64 x, .int .i64 y, .int .i64 m, .int .i32 rr, .int .u32 f, .int .u32 b, .int .u8 d, .int .u16 l] 68)).alloc (.cells #[.int .i64 0, .int .i64 0, .slice none 0 0] 49)) (w.heap.size + 2) 49 #[.int .i64 0, .int .i64 0, .slice none 0 0] := by
    have h := Own.new ((w.alloc (.cells #[.int .i64 c, .int .i64 r, .slice a xs.length cp] 49)).alloc (.cells #[.int .i64 1, .int .i64 x, .int .i64 y, .int .i64 m, .int .i32 rr, .int .u32 f, .int .u32 b, .int .u8 d, .int .u16 l] 68)) 49 #[.int .i64 0, .int .i64 0, .slice none 0 0]
    simpa using h
  have A0 := Lib.hid A0'
  clear A0'
  have g0 := Own.cell G0.out 0
  have g1 := Own.cell G0.out 1
  have g2 := Own.cell G0.out 2
  simp only [List.getElem?_toArray, List.getElem?_cons_zero, List.getElem?_cons_succ] at g0 g1 g2
  have e0 := Own.cell P0' 0
  have e1 := Own.cell P0' 1
  have e2 := Own.cell P0' 2
  have e3 := Own.cell P0' 3
  have e4 := Own.cell P0' 4
  have e5 := Own.cell P0' 5
  have e6 := Own.cell P0' 6
  have e7 := Own.cell P0' 7
  have e8 := Own.cell P0' 8
  simp only [List.getElem?_toArray, List.getElem?_cons_zero, List.getElem?_cons_succ] at e0 e1 e2 e3 e4 e5 e6 e7 e8
  clear P0'
  go_enter Tryd.func43, Tryd.ntmps43
  go_wp2_with fail
  generalize ((w.alloc (.cells #[.int .i64 c, .int .i64 r, .slice a xs.length cp] 49)).alloc (.cells #[.int .i64 1, .int .i64 x, .int .i64 y, .int .i64 m, .int .i32 rr, .int .u32 f, .int .u32 b, .int .u8 d, .int .u16 l] 68)).alloc (.cells #[.int .i64 0, .int .i64 0, .slice none 0 0] 49) = w0 at B0 G0 A0 g0 g1 g2 e0 e1 e2 e3 e4 e5 e6 e7 e8 ⊢
  clear g0 g1 g2 e0 e1 e2 e3 e4 e5 e6 e7 e8
  have HCALL := Lib.hid (ref_do1_any c r x y m rr f b d l a xs.length cp xs w0 (HL.out.below B0.out) hcp)
  refine HCALL.out.mono ?_
  clear HCALL
  obtain ⟨c2, hc2⟩ : ∃ c2, okI c r xs f b c = c2 := ⟨_, rfl⟩
  obtain ⟨r2, hr2⟩ : ∃ r2, okI c r xs f b r = r2 := ⟨_, rfl⟩
  obtain ⟨M, hM⟩ : ∃ M, turnP c r xs y f b (fun l' => insertP l' x m f b) = M := ⟨_, rfl⟩
  rw [hc2, hr2, hM]
  have HC2 := Lib.hid hc2
  have HR2 := Lib.hid hr2
  have HM := Lib.hid hM
  clear hc2 hr2 hM
  rintro e w1 ⟨v1, rfl, r1, b1⟩
  obtain ⟨va, vc, rfl, _⟩ := r1.cells
  have R1 := Lib.hid r1
  have B1 : Hid (Below w.heap.size w w1) := B0.out.trans (b1.mono B0.out.size)
  have A1 := Lib.hid (A0.out.below b1 A0.out.lt)
  have ha0 : w.heap.size + 2 < w0.heap.size := A0.out.lt
  clear r1 b1
  have hA := A1.out
  go_wp2_with (first
    | (refine gvstore_list rfl _ _ rfl (sa := va) (sc := vc) rfl rfl hA ?_; intro w2 o2 k2; have O2 := Lib.hid o2; have B2 : Hid (Below w.heap.size w w2) := below_grown B1.out k2 (by omega) B1.out.size; have R2 : Hid (CRow w2 w0.heap.size (.slice va M.length vc) M) := crow_other R1.out k2 (by omega); clear o2 k2 hA)
    | go_in)
  have g0 := Own.cell O2.out 0
  have g1 := Own.cell O2.out 1
  have g2 := Own.cell O2.out 2
  simp only [List.getElem?_toArray, List.getElem?_cons_zero, List.getElem?_cons_succ] at g0 g1 g2
  (try simp only [Exit.inBlock, Exit.then])
  refine bodyPost_ret (v := .agg #[.int .i64 c2, .int .i64 r2, .slice va M.length vc]) (by simp [results, Tryd.results43, go_sem, g0, g1, g2]) rfl ?_
  have hc2 := HC2.out
  have hr2 := HR2.out
  have hM := HM.out
  subst hc2 hr2 hM
  exact ⟨_, rfl, R2.out.up B0.out.size, B2.out⟩
set_option maxRecDepth 10000 in
set_option maxHeartbeats 4000000 in
theorem want_do2 (c r x y m rr f b d l : Int) (a : Option Addr) (n cp : Nat) (xs : List Glyph) (w : World) (hl : Cells w a n xs) (hcp : n ≤ cp) :
    Calls Tryd.prog 43 #[.agg #[.int .i64 c, .int .i64 r, .slice a n cp], .agg #[.int .i64 2, .int .i64 x, .int .i64 y, .int .i64 m, .int .i32 rr, .int .u32 f, .int .u32 b, .int .u8 d, .int .u16 l]] w (GG (okI c r xs f b c) (okI c r xs f b r) (turnP c r xs y f b (fun l' => deleteP l' x m f b)) w) := by
  obtain rfl := hl.1
  have HL := Lib.hid hl
  clear hl
  have B0 : Hid (Below w.heap.size w (((w.alloc (.cells #[.int .i64 c, .int .i64 r, .slice a xs.length cp] 49)).alloc (.cells #[.int .i64 2, .int .i64 x, .int .i64 y, .int .i64 m, .int .i32 rr, .int .u32 f, .int .u32 b, .int .u8 d, .int .u16 l] 68)).alloc (.cells #[.int .i64 0, .int .i64 0, .slice none 0 0] 49))) := (((Below.refl _ _).alloc (Nat.le_refl _) _).alloc (by simp) _).alloc (by simp; omega) _
  have G0 : Hid (Own (((w.alloc (.cells #[.int .i64 c, .int .i64 r, .slice a xs.length cp] 49)).alloc (.cells #[.int .i64 2, .int .i64 x, .int .i64 y, .int .i64 m, .int .i32 rr, .int .u32 f, .int .u32 b, .int .u8 d, .int .u16 l] 68)).alloc (.cells #[.int .i64 0, .int .i64 0, .slice none 0 0] 49)) w.heap.size 49 #[.int .i64 c, .int .i64 r, .slice a xs.length cp]) := ((Own.new w 49 _).alloc _).alloc _
  have P0' : Own (((w.alloc (.cells #[.int .i64 c, .int .i64 r, .slice a xs.length cp] 49)).alloc (.cells #[.int .i64 2, .int .i64 x, .int .i64 y, .int .i64 m, .int .i32 rr, .int .u32 f, .int .u32 b, .int .u8 d, .int .u16 l] 68)).alloc (.cells #[.int .i64 0, .int .i64 0, .slice none 0 0] 49)) (w.heap.size + 1) 68 #[.int .i64 2, .int .i64 x, .int .i64 y, .int .i64 m, .int .i32 rr, .int .u32 f, .int .u32 b, .int .u8 d, .int .u16 l] := by
    have h := (Own.new (w.alloc (.cells #[.int .i64 c, .int .i64 r, .slice a xs.length cp] 49)) 68 #[.int .i64 2, .int .i64 x, .int .i64 y, .int .i64 m, .int .i32 rr, .int .u32 f, .int .u32 b, .int .u8 d, .int .u16 l]).alloc (.cells #[.int .i64 0, .int .i64 0, .slice none 0 0] 49)
    simpa using h
  have A0' : Own (((w.alloc (.cells #[.int .i64 c, .int .i64 r, .slice a xs.length cp] 49)).alloc (.cells #[.int .i64 2, .int .i64 x, .int .i64 y, .int .i64 m, .int .i32 rr, .int .u32 f, .int .u32 b, .int .u8 d, .int .u16 l] 68)).alloc (.cells #[.int .i64 0, .int .i64 0, .slice none 0 0] 49)) (w.heap.size + 2) 49 #[.int .i64 0, .int .i64 0, .slice none 0 0] := by
    have h := Own.new ((w.alloc (.cells #[.int .i64 c, .int .i64 r, .slice a xs.length cp] 49)).alloc (.cells #[.int .i64 2, .int .i64 x, .int .i64 y, .int .i64 m, .int .i32 rr, .int .u32 f, .int .u32 b, .int .u8 d, .int .u16 l] 68)) 49 #[.int .i64 0, .int .i64 0, .slice none 0 0]
    simpa using h
  have A0 := Lib.hid A0'
  clear A0'
  have g0 := Own.cell G0.out 0
  have g1 := Own.cell G0.out 1
  have g2 := Own.cell G0.out 2
  simp only [List.getElem?_toArray, List.getElem?_cons_zero, List.getElem?_cons_succ] at g0 g1 g2
  have e0 := Own.cell P0' 0
  have e1 := Own.cell P0' 1
  have e2 := Own.cell P0' 2
  have e3 := Own.cell P0' 3
  have e4 := Own.cell P0' 4
  have e5 := Own.cell P0' 5
  have e6 := Own.cell P0' 6
  have e7 := Own.cell P0' 7
  have e8 := Own.cell P0' 8
  simp only [List.getElem?_toArray, List.getElem?_cons_zero, List.getElem?_cons_succ] at e0 e1 e2 e3 e4 e5 e6 e7 e8
  clear P0'
  go_enter Tryd.func43, Tryd.ntmps43
  go_wp2_with fail
  generalize ((w.alloc (.cells #[.int .i64 c, .int .i64 r, .slice a xs.length cp] 49)).alloc (.cells #[.int .i64 2, .int .i64 x, .int .i64 y, .int .i64 m, .int .i32 rr, .int .u32 f, .int .u32 b, .int .u8 d, .int .u16 l] 68)).alloc (.cells #[.int .i64 0, .int .i64 0, .slice none 0 0] 49) = w0 at B0 G0 A0 g0 g1 g2 e0 e1 e2 e3 e4 e5 e6 e7 e8 ⊢
  clear g0 g1 g2 e0 e1 e2 e3 e4 e5 e6 e7 e8
  have HCALL := Lib.hid (ref_do2_any c r x y m rr f b d l a xs.length cp xs w0 (HL.out.below B0.out) hcp)
  refine HCALL.out.mono ?_
  clear HCALL
  obtain ⟨c2, hc2⟩ : ∃ c2, okI c r xs f b c = c2 := ⟨_, rfl⟩
  obtain ⟨r2, hr2⟩ : ∃ r2, okI c r xs f b r = r2 := ⟨_, rfl⟩
  obtain ⟨M, hM⟩ : ∃ M, turnP c r xs y f b (fun l' => deleteP l' x m f b) = M := ⟨_, rfl⟩
  rw [hc2, hr2, hM]
  have HC2 := Lib.hid hc2
  have HR2 := Lib.hid hr2
  have HM := Lib.hid hM
  clear hc2 hr2 hM
  rintro e w1 ⟨v1, rfl, r1, b1⟩
  obtain ⟨va, vc, rfl, _⟩ := r1.cells
  have R1 := Lib.hid r1
  have B1 : Hid (Below w.heap.size w w1) := B0.out.trans (b1.mono B0.out.size)
  have A1 := Lib.hid (A0.out.below b1 A0.out.lt)
  have ha0 : w.heap.size + 2 < w0.heap.size := A0.out.lt
  clear r1 b1
  have hA := A1.out
  go_wp2_with (first
    | (refine gvstore_list rfl _ _ rfl (sa := va) (sc := vc) rfl rfl hA ?_; intro w2 o2 k2; have O2 := Lib.hid o2; have B2 : Hid (Below w.heap.size w w2) := below_grown B1.out k2 (by omega) B1.out.size; have R2 : Hid (CRow w2 w0.heap.size (.slice va M.length vc) M) := crow_other R1.out k2 (by omega); clear o2 k2 hA)
    | go_in)
  have g0 := Own.cell O2.out 0
  have g1 := Own.cell O2.out 1
  have g2 := Own.cell O2.out 2
  simp only [List.getElem?_toArray, List.getElem?_cons_zero, List.getElem?_cons_succ] at g0 g1 g2
  (try simp only [Exit.inBlock, Exit.then])
  refine bodyPost_ret (v := .agg #[.int .i64 c2, .int .i64 r2, .slice va M.length vc]) (by simp [results, Tryd.results43, go_sem, g0, g1, g2]) rfl ?_
  have hc2 := HC2.out
  have hr2 := HR2.out
  have hM := HM.out
  subst hc2 hr2 hM
  exact ⟨_, rfl, R2.out.up B0.out.size, B2.out⟩
set_option maxRecDepth 10000 in
set_option maxHeartbeats 4000000 in
theorem want_clear (c r x y m rr f b d l : Int) (a : Option Addr) (n cp : Nat) (xs : List Glyph) (w : World) (hl : Cells w a n xs) (hcp : n ≤ cp) :
    Calls Tryd.prog 43 #[.agg #[.int .i64 c, .int .i64 r, .slice a n cp], .agg #[.int .i64 3, .int .i64 x, .int .i64 y, .int .i64 m, .int .i32 rr, .int .u32 f, .int .u32 b, .int .u8 d, .int .u16 l]] w (GG (okI c r xs f b c) (okI c r xs f b r) (clearP c r xs x m f b) w) := by
  obtain rfl := hl.1
  have HL := Lib.hid hl
  clear hl
  have B0 : Hid (Below w.heap.size w (((w.alloc (.cells #[.int .i64 c, .int .i64 r, .slice a xs.length cp] 49)).alloc (.cells #[.int .i64 3, .int .i64 x, .int .i64 y, .int .i64 m, .int .i32 rr, .int .u32 f, .int .u32 b, .int .u8 d, .int .u16 l] 68)).alloc (.cells #[.int .i64 0, .int .i64 0, .slice none 0 0] 49))) := (((Below.refl _ _).alloc (Nat.le_refl _) _).alloc (by simp) _).alloc (by simp; omega) _
  have G0 : Hid (Own (((w.alloc (.cells #[.int .i64 c, .int .i64 r, .slice a xs.length cp] 49)).alloc (.cells #[.int .i64 3, .int .i64 x, .int .i64 y, .int .i64 m, .int .i32 rr, .int .u32 f, .int .u32 b, .int .u8 d, .int .u16 l] 68)).alloc (.cells #[.int .i64 0, .int .i64 0, .slice none 0 0] 49)) w.heap.size 49 #[.int .i64 c, .int .i64 r, .slice a xs.length cp]) := ((Own.new w 49 _).alloc _).alloc _
  have P0' : Own (((w.alloc (.cells #[.int .i64 c, .int .i64 r, .slice a xs.length cp] 49)).alloc (.cells #[.int .i64 3, .int .i64 x, .int .i64 y, .int .i64 m, .int .i32 rr, .int .u32 f, .int .u32 b, .int .u8 d, .int .u16 l] 68)).alloc (.cells #[.int .i64 0, .int .i64 0, .slice none 0 0] 49)) (w.heap.size + 1) 68 #[.int .i64 3, .int .i64 x, .int .i64 y, .int .i64 m, .int .i32 rr, .int .u32 f, .int .u32 b, .int .u8 d, .int .u16 l] := by
    have h := (Own.new (w.alloc (.cells #[.int .i64 c, .int .i64 r, .slice a xs.length cp] 49)) 68 #[.int .i64 3, .int .i64 x, .int .i64 y, .int .i64 m, .int .i32 rr, .int .u32 f, .int .u32 b, .int .u8 d, .int .u16 l]).alloc (.cells #[.int .i64 0, .int .i64 0, .slice none 0 0] 49)
    simpa using h
  have A0' : Own (((w.alloc (.cells #[.int .i64 c, .int .i64 r, .slice a xs.length cp] 49)).alloc (.cells #[.int .i64 3, .int .i64 x, .int .i64 y, .int .i64 m, .int .i32 rr, .int .u32 f, .int .u32 b, .int .u8 d, .int .u16 l] 68)).alloc (.cells #[.int .i64 0, .int .i64 0, .slice none 0 0] 49)) (w.heap.size + 2) 49 #[.int .i64 0, .int .i64 0, .slice none 0 0] := by
    have h := Own.new ((w.alloc (.cells #[.int .i64 c, .int .i64 r, .slice a xs.length cp] 49)).alloc (.cells #[.int .i64 3, .int .i64 x, .int .i64 y, .int .i64 m, .int .i32 rr, .int .u32 f, .int .u32 b, .int .u8 d, .int .u16 l] 68)) 49 #[.int .i64 0, .int .i64 0, .slice none 0 0]
    simpa using h
  have A0 := Lib.hid A0'
  clear A0'
  have g0 := Own.cell G0.out 0
  have g1 := Own.cell G0.out 1
  have g2 := Own.cell G0.out 2
  simp only [List.getElem?_toArray, List.getElem?_cons_zero, List.getElem?_cons_succ] at g0 g1 g2
  have e0 := Own.cell P0' 0
  have e1 := Own.cell P0' 1
  have e2 := Own.cell P0' 2
  have e3 := Own.cell P0' 3
  have e4 := Own.cell P0' 4
  have e5 := Own.cell P0' 5
  have e6 := Own.cell P0' 6
  have e7 := Own.cell P0' 7
  have e8 := Own.cell P0' 8
  simp only [List.getElem?_toArray, List.getElem?_cons_zero, List.getElem?_cons_succ] at e0 e1 e2 e3 e4 e5 e6 e7 e8
  clear P0'
  go_enter Tryd.func43, Tryd.ntmps43
  go_wp2_with fail
  generalize ((w.alloc (.cells #[.int .i64 c, .int .i64 r, .slice a xs.length cp] 49)).alloc (.cells #[.int .i64 3, .int .i64 x, .int .i64 y, .int .i64 m, .int .i32 rr, .int .u32 f, .int .u32 b, .int .u8 d, .int .u16 l] 68)).alloc (.cells #[.int .i64 0, .int .i64 0, .slice none 0 0] 49) = w0 at B0 G0 A0 g0 g1 g2 e0 e1 e2 e3 e4 e5 e6 e7 e8 ⊢
  clear g0 g1 g2 e0 e1 e2 e3 e4 e5 e6 e7 e8
  have HCALL := Lib.hid (ref_clear_any c r x m f b d l a xs.length cp xs w0 (HL.out.below B0.out) hcp)
  refine HCALL.out.mono ?_
  clear HCALL
  obtain ⟨c2, hc2⟩ : ∃ c2, okI c r xs f b c = c2 := ⟨_, rfl⟩
  obtain ⟨r2, hr2⟩ : ∃ r2, okI c r xs f b r = r2 := ⟨_, rfl⟩
  obtain ⟨M, hM⟩ : ∃ M, clearP c r xs x m f b = M := ⟨_, rfl⟩
  rw [hc2, hr2, hM]
  have HC2 := Lib.hid hc2
  have HR2 := Lib.hid hr2
  have HM := Lib.hid hM
  clear hc2 hr2 hM
  rintro e w1 ⟨v1, rfl, r1, b1⟩
  obtain ⟨va, vc, rfl, _⟩ := r1.cells
  have R1 := Lib.hid r1
  have B1 : Hid (Below w.heap.size w w1) := B0.out.trans (b1.mono B0.out.size)
  have A1 := Lib.hid (A0.out.below b1 A0.out.lt)
  have ha0 : w.heap.size + 2 < w0.heap.size := A0.out.lt
  clear r1 b1
  have hA := A1.out
  go_wp2_with (first
    | (refine gvstore_list rfl _ _ rfl (sa := va) (sc := vc) rfl rfl hA ?_; intro w2 o2 k2; have O2 := Lib.hid o2; have B2 : Hid (Below w.heap.size w w2) := below_grown B1.out k2 (by omega) B1.out.size; have R2 : Hid (CRow w2 w0.heap.size (.slice va M.length vc) M) := crow_other R1.out k2 (by omega); clear o2 k2 hA)
    | go_in)
  have g0 := Own.cell O2.out 0
  have g1 := Own.cell O2.out 1
  have g2 := Own.cell O2.out 2
  simp only [List.getElem?_toArray, List.getElem?_cons_zero, List.getElem?_cons_succ] at g0 g1 g2
  (try simp only [Exit.inBlock, Exit.then])
  refine bodyPost_ret (v := .agg #[.int .i64 c2, .int .i64 r2, .slice va M.length vc]) (by simp [results, Tryd.results43, go_sem, g0, g1, g2]) rfl ?_
  have hc2 := HC2.out
  have hr2 := HR2.out
  have hM := HM.out
  subst hc2 hr2 hM
  exact ⟨_, rfl, R2.out.up B0.out.size, B2.out⟩
set_option maxRecDepth 10000 in
set_option maxHeartbeats 4000000 in
theorem want_resize (c r x y m rr f b d l : Int) (a : Option Addr) (n cp : Nat) (xs : List Glyph) (w : World) (hl : Cells w a n xs) (hcp : n ≤ cp) :
    Calls Tryd.prog 43 #[.agg #[.int .i64 c, .int .i64 r, .slice a n cp], .agg #[.int .i64 5, .int .i64 x, .int .i64 y, .int .i64 m, .int .i32 rr, .int .u32 f, .int .u32 b, .int .u8 d, .int .u16 l]] w (GG (rzI c r xs x y x) (rzI c r xs x y y) (resizeP c r xs x y) w) := by
  obtain rfl := hl.1
  have HL := Lib.hid hl
  clear hl
  have B0 : Hid (Below w.heap.size w (((w.alloc (.cells #[.int .i64 c, .int .i64 r, .slice a xs.length cp] 49)).alloc (.cells #[.int .i64 5, .int .i64 x, .int .i64 y, .int .i64 m, .int .i32 rr, .int .u32 f, .int .u32 b, .int .u8 d, .int .u16 l] 68)).alloc (.cells #[.int .i64 0, .int .i64 0, .slice none 0 0] 49))) := (((Below.refl _ _).alloc (Nat.le_refl _) _).alloc (by simp) _).alloc (by simp; omega) _
  have G0 : Hid (Own (((w.alloc (.cells #[.int .i64 c, .int .i64 r, .slice a xs.length cp] 49)).alloc (.cells #[.int .i64 5, .int .i64 x, .int .i64 y, .int .i64 m, .int .i32 rr, .int .u32 f, .int .u32 b, .int .u8 d, .int .u16 l] 68)).alloc (.cells #[.int .i64 0, .int .i64 0, .slice none 0 0] 49)) w.heap.size 49 #[.int .i64 c, .int .i64 r, .slice a xs.length cp]) := ((Own.new w 49 _).alloc _).alloc _
  have P0' : Own (((w.alloc (.cells #[.int .i64 c, .int .i64 r, .slice a xs.length cp] 49)).alloc (.cells #[.int .i64 5, .int .i64 x, .int .i64 y, .int .i64 m, .int .i32 rr, .int .u32 f, .int .u32 b, .int .u8 d, .int .u16 l] 68)).alloc (.cells #[.int .i64 0, .int .i64 0, .slice none 0 0] 49)) (w.heap.size + 1) 68 #[.int .i64 5, .int .i64 x, .int .i64 y, .int .i64 m, .int .i32 rr, .int .u32 f, .int .u32 b, .int .u8 d, .int .u16 l] := by
    have h := (Own.new (w.alloc (.cells #[.int .i64 c, .int .i64 r, .slice a xs.length cp] 49)) 68 #[.int .i64 5, .int .i64 x, .int .i64 y, .int .i64 m, .int .i32 rr, .int .u32 f, .int .u32 b, .int .u8 d, .int .u16 l]).alloc (.cells #[.int .i64 0, .int .i64 0, .slice none 0 0] 49)
    simpa using h
  have A0' : Own (((w.alloc (.cells #[.int .i64 c, .int .i64 r, .slice a xs.length cp] 49)).alloc (.cells #[.int .i64 5, .int .i64 x, .int .i64 y, .int .i64 m, .int .i32 rr, .int .u32 f, .int .u32 b, .int .u8 d, .int .u16 l] 68)).alloc (.cells #[.int .i64 0, .int .i64 0, .slice none 0 0] 49)) (w.heap.size + 2) 49 #[.int .i64 0, .int .i64 0, .slice none 0 0] := by
    have h := Own.new ((w.alloc (.cells #[.int .i64 c, .int .i64 r, .slice a xs.length cp] 49)).alloc (.cells #[.int .i64 5, .int .i64 x, .int .i64 y, .int .i64 m, .int .i32 rr, .int .u32 f, .int .u32 b, .int .u8 d, .int .u16 l] 68)) 49 #[.int .i64 0, .int .i64 0, .slice none 0 0]
    simpa using h
  have A0 := Lib.hid A0'
  clear A0'
  have g0 := Own.cell G0.out 0
  have g1 := Own.cell G0.out 1
  have g2 := Own.cell G0.out 2
  simp only [List.getElem?_toArray, List.getElem?_cons_zero, List.getElem?_cons_succ] at g0 g1 g2
  have e0 := Own.cell P0' 0
  have e1 := Own.cell P0' 1
  have e2 := Own.cell P0' 2
  have e3 := Own.cell P0' 3
  have e4 := Own.cell P0' 4
  have e5 := Own.cell P0' 5
  have e6 := Own.cell P0' 6
  have e7 := Own.cell P0' 7
  have e8 := Own.cell P0' 8
  simp only [List.getElem?_toArray, List.getElem?_cons_zero, List.getElem?_cons_succ] at e0 e1 e2 e3 e4 e5 e6 e7 e8
  clear P0'
  go_enter Tryd.func43, Tryd.ntmps43
  go_wp2_with fail
  generalize ((w.alloc (.cells #[.int .i64 c, .int .i64 r, .slice a xs.length cp] 49)).alloc (.cells #[.int .i64 5, .int .i64 x, .int .i64 y, .int .i64 m, .int .i32 rr, .int .u32 f, .int .u32 b, .int .u8 d, .int .u16 l] 68)).alloc (.cells #[.int .i64 0, .int .i64 0, .slice none 0 0] 49) = w0 at B0 G0 A0 g0 g1 g2 e0 e1 e2 e3 e4 e5 e6 e7 e8 ⊢
  clear g0 g1 g2 e0 e1 e2 e3 e4 e5 e6 e7 e8
  have HCALL := Lib.hid (ref_resize_any c r x y a xs.length cp xs w0 (HL.out.below B0.out) hcp)
  refine HCALL.out.mono ?_
  clear HCALL
  obtain ⟨c2, hc2⟩ : ∃ c2, rzI c r xs x y x = c2 := ⟨_, rfl⟩
  obtain ⟨r2, hr2⟩ : ∃ r2, rzI c r xs x y y = r2 := ⟨_, rfl⟩
  obtain ⟨M, hM⟩ : ∃ M, resizeP c r xs x y = M := ⟨_, rfl⟩
  rw [hc2, hr2, hM]
  have HC2 := Lib.hid hc2
  have HR2 := Lib.hid hr2
  have HM := Lib.hid hM
  clear hc2 hr2 hM
  rintro e w1 ⟨v1, rfl, r1, b1⟩
  obtain ⟨va, vc, rfl, _⟩ := r1.cells
  have R1 := Lib.hid r1
  have B1 : Hid (Below w.heap.size w w1) := B0.out.trans (b1.mono B0.out.size)
  have A1 := Lib.hid (A0.out.below b1 A0.out.lt)
  have ha0 : w.heap.size + 2 < w0.heap.size := A0.out.lt
  clear r1 b1
  have hA := A1.out
  go_wp2_with (first
    | (refine gvstore_list rfl _ _ rfl (sa := va) (sc := vc) rfl rfl hA ?_; intro w2 o2 k2; have O2 := Lib.hid o2; have B2 : Hid (Below w.heap.size w w2) := below_grown B1.out k2 (by omega) B1.out.size; have R2 : Hid (CRow w2 w0.heap.size (.slice va M.length vc) M) := crow_other R1.out k2 (by omega); clear o2 k2 hA)
    | go_in)
  have g0 := Own.cell O2.out 0
  have g1 := Own.cell O2.out 1
  have g2 := Own.cell O2.out 2
  simp only [List.getElem?_toArray, List.getElem?_cons_zero, List.getElem?_cons_succ] at g0 g1 g2
  (try simp only [Exit.inBlock, Exit.then])
  refine bodyPost_ret (v := .agg #[.int .i64 c2, .int .i64 r2, .slice va M.length vc]) (by simp [results, Tryd.results43, go_sem, g0, g1, g2]) rfl ?_
  have hc2 := HC2.out
  have hr2 := HR2.out
  have hM := HM.out
  subst hc2 hr2 hM
  exact ⟨_, rfl, R2.out.up B0.out.size, B2.out⟩
set_option maxRecDepth 10000 in
set_option maxHeartbeats 4000000 in
theorem want_else (c r k x y m rr f b d l : Int) (hk : k < 0 ∨ 5 < k) (a : Option Addr) (n cp : Nat) (xs : List Glyph) (w : World) (hl : Cells w a n xs) (hcp : n ≤ cp) :
    Calls Tryd.prog 43 #[.agg #[.int .i64 c, .int .i64 r, .slice a n cp], .agg #[.int .i64 k, .int .i64 x, .int .i64 y, .int .i64 m, .int .i32 rr, .int .u32 f, .int .u32 b, .int .u8 d, .int .u16 l]] w (RVal (.agg #[.int .i64 c, .int .i64 r, .slice a n cp]) w) := by
  have q0 : (k == 0) = false := beq_eq_false_iff_ne.2 (by omega)
  have q1 : (k == 1) = false := beq_eq_false_iff_ne.2 (by omega)
  have q2 : (k == 2) = false := beq_eq_false_iff_ne.2 (by omega)
  have q3 : (k == 3) = false := beq_eq_false_iff_ne.2 (by omega)
  have q4 : (k == 4) = false := beq_eq_false_iff_ne.2 (by omega)
  have q5 : (k == 5) = false := beq_eq_false_iff_ne.2 (by omega)
  clear hk
  have A0x := Own.new ((w.alloc (.cells #[.int .i64 c, .int .i64 r, .slice a n cp] 49)).alloc (.cells #[.int .i64 k, .int .i64 x, .int .i64 y, .int .i64 m, .int .i32 rr, .int .u32 f, .int .u32 b, .int .u8 d, .int .u16 l] 68)) 49 #[.int .i64 0, .int .i64 0, .slice none 0 0]
  have hA : Own (((w.alloc (.cells #[.int .i64 c, .int .i64 r, .slice a n cp] 49)).alloc (.cells #[.int .i64 k, .int .i64 x, .int .i64 y, .int .i64 m, .int .i32 rr, .int .u32 f, .int .u32 b, .int .u8 d, .int .u16 l] 68)).alloc (.cells #[.int .i64 0, .int .i64 0, .slice none 0 0] 49)) (w.heap.size + 2) 49 #[.int .i64 0, .int .i64 0, .slice none 0 0] := by simpa using A0x
  clear A0x
  obtain rfl := hl.1
  have HL := Lib.hid hl
  clear hl
  have B0 : Hid (Below w.heap.size w (((w.alloc (.cells #[.int .i64 c, .int .i64 r, .slice a xs.length cp] 49)).alloc (.cells #[.int .i64 k, .int .i64 x, .int .i64 y, .int .i64 m, .int .i32 rr, .int .u32 f, .int .u32 b, .int .u8 d, .int .u16 l] 68)).alloc (.cells #[.int .i64 0, .int .i64 0, .slice none 0 0] 49))) := (((Below.refl _ _).alloc (Nat.le_refl _) _).alloc (by simp) _).alloc (by simp; omega) _
  have G0 : Hid (Own (((w.alloc (.cells #[.int .i64 c, .int .i64 r, .slice a xs.length cp] 49)).alloc (.cells #[.int .i64 k, .int .i64 x, .int .i64 y, .int .i64 m, .int .i32 rr, .int .u32 f, .int .u32 b, .int .u8 d, .int .u16 l] 68)).alloc (.cells #[.int .i64 0, .int .i64 0, .slice none 0 0] 49)) w.heap.size 49 #[.int .i64 c, .int .i64 r, .slice a xs.length cp]) := ((Own.new w 49 _).alloc _).alloc _
  have P0' : Own (((w.alloc (.cells #[.int .i64 c, .int .i64 r, .slice a xs.length cp] 49)).alloc (.cells #[.int .i64 k, .int .i64 x, .int .i64 y, .int .i64 m, .int .i32 rr, .int .u32 f, .int .u32 b, .int .u8 d, .int .u16 l] 68)).alloc (.cells #[.int .i64 0, .int .i64 0, .slice none 0 0] 49)) (w.heap.size + 1) 68 #[.int .i64 k, .int .i64 x, .int .i64 y, .int .i64 m, .int .i32 rr, .int .u32 f, .int .u32 b, .int .u8 d, .int .u16 l] := by
    have h := (Own.new (w.alloc (.cells #[.int .i64 c, .int .i64 r, .slice a xs.length cp] 49)) 68 #[.int .i64 k, .int .i64 x, .int .i64 y, .int .i64 m, .int .i32 rr, .int .u32 f, .int .u32 b, .int .u8 d, .int .u16 l]).alloc (.cells #[.int .i64 0, .int .i64 0, .slice none 0 0] 49)
    simpa using h
  have A0' : Own (((w.alloc (.cells #[.int .i64 c, .int .i64 r, .slice a xs.length cp] 49)).alloc (.cells #[.int .i64 k, .int .i64 x, .int .i64 y, .int .i64 m, .int .i32 rr, .int .u32 f, .int .u32 b, .int .u8 d, .int .u16 l] 68)).alloc (.cells #[.int .i64 0, .int .i64 0, .slice none 0 0] 49)) (w.heap.size + 2) 49 #[.int .i64 0, .int .i64 0, .slice none 0 0] := by
    have h := Own.new ((w.alloc (.cells #[.int .i64 c, .int .i64 r, .slice a xs.length cp] 49)).alloc (.cells #[.int .i64 k, .int .i64 x, .int .i64 y, .int .i64 m, .int .i32 rr, .int .u32 f, .int .u32 b, .int .u8 d, .int .u16 l] 68)) 49 #[.int .i64 0, .int .i64 0, .slice none 0 0]
    simpa using h
  have A0 := Lib.hid A0'
  clear A0'
  have g0 := Own.cell G0.out 0
  have g1 := Own.cell G0.out 1
  have g2 := Own.cell G0.out 2
  simp only [List.getElem?_toArray, List.getElem?_cons_zero, List.getElem?_cons_succ] at g0 g1 g2
  have e0 := Own.cell P0' 0
  have e1 := Own.cell P0' 1
  have e2 := Own.cell P0' 2
  have e3 := Own.cell P0' 3
  have e4 := Own.cell P0' 4
  have e5 := Own.cell P0' 5
  have e6 := Own.cell P0' 6
  have e7 := Own.cell P0' 7
  have e8 := Own.cell P0' 8
  simp only [List.getElem?_toArray, List.getElem?_cons_zero, List.getElem?_cons_succ] at e0 e1 e2 e3 e4 e5 e6 e7 e8
  clear P0'
  go_enter Tryd.func43, Tryd.ntmps43
  go_wp2_with (first
    | (refine gvstore_list rfl _ _ rfl (c := c) (r := r) (sa := a) (sn := xs.length) (sc := cp) rfl rfl hA ?_; intro w2 o2 k2; have O2 := Lib.hid o2; have B2 : Hid (Below w.heap.size w w2) := below_grown B0.out k2 (by omega) B0.out.size; clear o2 k2 hA)
    | go_in)
  clear g0 g1 g2
  have g0 := Own.cell O2.out 0
  have g1 := Own.cell O2.out 1
  have g2 := Own.cell O2.out 2
  simp only [List.getElem?_toArray, List.getElem?_cons_zero, List.getElem?_cons_succ] at g0 g1 g2
  (try simp only [Exit.inBlock, Exit.then])
  refine bodyPost_ret (v := .agg #[.int .i64 c, .int .i64 r, .slice a xs.length cp]) (by simp [results, Tryd.results43, go_sem, g0, g1, g2]) rfl ?_
  exact ⟨rfl, B2.out⟩
end Go.Proofs.YtlhcehealjdbdaaDoor
/- A grid scrolled up and down again, in plain Lean. -/
namespace Go.Proofs.YtlhcehealjdbdaaDoor
open Go.RowKit
set_option linter.unusedSimpArgs false
set_option linter.unusedVariables false

theorem rep_row {C : Nat} {b f : Int} (h1 : 1 ≤ C) (h8 : C ≤ 80) (hp : penMay f b = true) : RowOk (List.replicate C (blank b)) := by
  have hat : ∀ i, i < C → at_ (List.replicate C (blank b)) i = blank b := fun i hi => by
    unfold at_
    rw [List.getD_eq_getElem?_getD, List.getElem?_replicate, if_pos hi]
    rfl
  refine ⟨by simpa using h1, by simpa using h8, fun i hi => ?_⟩
  have hi' : i < C := by simpa using hi
  unfold CellOk
  rw [hat i hi']
  exact ⟨blank_may hp, fun k => (by cases k), fun k => (by cases k)⟩
section
variable {C R T B : Nat} {xs : List Glyph} {n f b : Int}
theorem new_row_ok (h : GridOk C R xs) (hp : penMay f b = true) (hb : B < R) (z : Nat) : RowOk (newRow C xs T B n b z) := by
  unfold newRow
  split
  · rename_i q
    exact h.2.2.2.2.2 _ (by omega)
  · exact rep_row h.1 h.2.1 hp
theorem scrF_ok (h : GridOk C R xs) (hp : penMay f b = true) (hb : B < R) : ∀ k : Nat, T + k ≤ R → GridOk C R (scrF C xs T B n b k)
  | 0, _ => h
  | k + 1, hk => by
    rw [scrF, Int.toNat_natCast]
    exact set_ok (scrF_ok h hp hb k (by omega)) (by omega) (newRow_len h.2.2.2.2.1 (by omega) (by omega)) (new_row_ok h hp hb _)
theorem scrF_row (hl : xs.length = C * R) (hb : B < R) : ∀ k : Nat, T + k ≤ R → ∀ z, z < R → rowOf C z (scrF C xs T B n b k) = if T ≤ z ∧ z < T + k then newRow C xs T B n b z else rowOf C z xs
  | 0, _, z, hz => by
    rw [if_neg (by omega)]
    rfl
  | k + 1, hk, z, hz => by
    have hl2 := scrF_len (C := C) (xs := xs) (top := T) (bot := B) (n := n) (b := b) hl (by omega) (by omega) k (by rw [Int.toNat_natCast]; omega)
    rw [scrF, Int.toNat_natCast, rowOf_set hl2 (by omega) hz (newRow_len hl (by omega) (by omega)), scrF_row hl hb k (by omega) z hz]
    by_cases hq : z = T + k
    · subst hq
      rw [if_pos rfl, if_pos ⟨by omega, by omega⟩]
    · rw [if_neg hq]
      by_cases hr : T ≤ z ∧ z < T + k
      · rw [if_pos hr, if_pos ⟨hr.1, by omega⟩]
      · rw [if_neg hr, if_neg (by omega)]
end
theorem scr_back {C R T B N : Nat} {xs : List Glyph} {f b : Int} (h : GridOk C R xs) (hp : penMay f b = true) (h1 : T ≤ B) (h2 : B < R) (hn : 1 ≤ N) :
    ∃ M1 M2, scrollP C R xs T B N f b = M1 ∧ GridOk C R M1 ∧ scrollP C R M1 T B (-(N : Int)) f b = M2 ∧ GridOk C R M2 ∧ ∀ z, z < R → rowOf C z M2 = if T ≤ z ∧ z ≤ B ∧ z < T + N then List.replicate C (blank b) else rowOf C z xs := by
  obtain ⟨H, hH⟩ : ∃ H, B - T + 1 = H := ⟨_, rfl⟩
  obtain ⟨m, hm⟩ : ∃ m, min N H = m := ⟨_, rfl⟩
  have ok0 : (gridMay C R xs && penMay f b) = true := by rw [gmay_iff.2 ⟨C, R, rfl, rfl, h⟩, hp]; rfl
  have e1 : scrollP C R xs T B N f b = scrF C xs T B m b H := by
    unfold scrollP
    rw [if_pos ok0, if_neg (by omega), Int.toNat_natCast]
    rw [show ((B : Int) - T + 1).toNat = H from by omega, show max (-((B : Int) - T + 1)) (min (N : Int) ((B : Int) - T + 1)) = (m : Int) from by omega]
  have g1 : GridOk C R (scrF C xs T B m b H) := scrF_ok h hp h2 H (by omega)
  have r1 := fun z hz => scrF_row (n := m) (b := b) (T := T) h.2.2.2.2.1 h2 H (by omega) z hz
  refine ⟨_, _, e1, g1, rfl, ?_⟩
  obtain ⟨M1, hM1⟩ : ∃ M1, scrF C xs T B m b H = M1 := ⟨_, rfl⟩
  rw [hM1] at g1 r1 ⊢
  have ok1 : (gridMay C R M1 && penMay f b) = true := by rw [gmay_iff.2 ⟨C, R, rfl, rfl, g1⟩, hp]; rfl
  have e2 : scrollP C R M1 T B (-(N : Int)) f b = scrF C M1 T B (-(m : Int)) b H := by
    unfold scrollP
    rw [if_pos ok1, if_neg (by omega), Int.toNat_natCast]
    rw [show ((B : Int) - T + 1).toNat = H from by omega, show max (-((B : Int) - T + 1)) (min (-(N : Int)) ((B : Int) - T + 1)) = -(m : Int) from by omega]
  rw [e2]
  refine ⟨scrF_ok g1 hp h2 H (by omega), fun z hz => ?_⟩
  rw [scrF_row g1.2.2.2.2.1 h2 H (by omega) z hz]
  by_cases hq : T ≤ z ∧ z < T + H
  · rw [if_pos hq]
    unfold newRow
    by_cases hs : T + m ≤ z
    · rw [if_pos ⟨by omega, by omega⟩, if_neg (by omega)]
      obtain ⟨y, hy⟩ : ∃ y, z = y + m := ⟨z - m, by omega⟩
      rw [show ((z : Int) + -(m : Int)).toNat = y from by omega, r1 y (by omega), if_pos ⟨by omega, by omega⟩]
      unfold newRow
      rw [if_pos ⟨by omega, by omega⟩]
      congr 1
      omega
    · rw [if_neg (by omega), if_pos ⟨by omega, by omega, by omega⟩]
  · rw [if_neg hq, r1 z hz, if_neg hq, if_neg (by omega)]
end Go.Proofs.YtlhcehealjdbdaaDoor
/- The document's Scroll upwards, in plain Lean: rows shifted by one, again and again. -/
namespace Go.Proofs.YtlhcehealjdbdaaDoor
open Go.RowKit
set_option linter.unusedSimpArgs false
set_option linter.unusedVariables false

/-- Row z behind k rounds. -/
def upRow (C : Nat) (xs : List Glyph) (T B : Nat) (b : Int) (k z : Nat) : List Glyph := if T ≤ z ∧ z ≤ B then (if z + k ≤ B then rowOf C (z + k) xs else List.replicate C (blank b)) else rowOf C z xs
/-- Behind k rounds, and in the next one all rows ahead of y. -/
def upL (C R : Nat) (xs : List Glyph) (T B : Nat) (b : Int) (k y : Nat) : List (List Glyph) := (List.range R).map fun z => if T ≤ z ∧ z < y then upRow C xs T B b (k + 1) z else upRow C xs T B b k z
theorem upL_at {C R T B k y z : Nat} {xs : List Glyph} {b : Int} (hz : z < R) : (upL C R xs T B b k y).getD z [] = if T ≤ z ∧ z < y then upRow C xs T B b (k + 1) z else upRow C xs T B b k z := by
  unfold upL
  rw [List.getD_eq_getElem?_getD, List.getElem?_map, List.getElem?_range hz]
  rfl
theorem upL_step {C R T B k y : Nat} {xs : List Glyph} {b : Int} (h1 : T ≤ y) (h2 : y < B) (h3 : B < R) : (upL C R xs T B b k y).set y ((upL C R xs T B b k y).getD (y + 1) []) = upL C R xs T B b k (y + 1) := by
  rw [upL_at (by omega), if_neg (by omega)]
  refine List.ext_getElem (by simp [upL]) fun i hi1 hi2 => ?_
  rw [List.getElem_set]
  simp only [upL, List.getElem_map, List.getElem_range]
  by_cases e : y = i
  · subst e
    rw [if_pos rfl, if_pos ⟨h1, by omega⟩]
    unfold upRow
    rw [if_pos (show T ≤ y + 1 ∧ y + 1 ≤ B by omega), if_pos (show T ≤ y ∧ y ≤ B by omega), show y + 1 + k = y + (k + 1) from by omega]
  · rw [if_neg e]
    by_cases q : T ≤ i ∧ i < y
    · rw [if_pos q, if_pos ⟨q.1, by omega⟩]
    · rw [if_neg q, if_neg (by omega)]
theorem upL_last {C R T B k : Nat} {xs : List Glyph} {b : Int} (h1 : T ≤ B) (h3 : B < R) : (upL C R xs T B b k B).set B (List.replicate C (blank b)) = upL C R xs T B b (k + 1) T := by
  refine List.ext_getElem (by simp [upL]) fun i hi1 hi2 => ?_
  rw [List.getElem_set]
  simp only [upL, List.getElem_map, List.getElem_range]
  rw [if_neg (show ¬ (T ≤ i ∧ i < T) by omega)]
  by_cases e : B = i
  · subst e
    rw [if_pos rfl]
    unfold upRow
    rw [if_pos ⟨h1, by omega⟩, if_neg (by omega)]
  · rw [if_neg e]
    by_cases q : T ≤ i ∧ i < B
    · rw [if_pos q]
    · rw [if_neg q]
      unfold upRow
      rw [if_neg (by omega), if_neg (by omega)]
end Go.Proofs.YtlhcehealjdbdaaDoor
/- The document's Scroll downwards, in plain Lean, and where both ways end. -/
namespace Go.Proofs.YtlhcehealjdbdaaDoor
open Go.RowKit
set_option linter.unusedSimpArgs false
set_option linter.unusedVariables false

/-- Row z behind k rounds downwards. -/
def dnRow (C : Nat) (xs : List Glyph) (T B : Nat) (b : Int) (k z : Nat) : List Glyph := if T ≤ z ∧ z ≤ B then (if T + k ≤ z then rowOf C (z - k) xs else List.replicate C (blank b)) else rowOf C z xs
/-- Behind k rounds, and in the next one all rows behind y. -/
def dnL (C R : Nat) (xs : List Glyph) (T B : Nat) (b : Int) (k y : Nat) : List (List Glyph) := (List.range R).map fun z => if y < z ∧ z ≤ B then dnRow C xs T B b (k + 1) z else dnRow C xs T B b k z
theorem dnL_at {C R T B k y z : Nat} {xs : List Glyph} {b : Int} (hz : z < R) : (dnL C R xs T B b k y).getD z [] = if y < z ∧ z ≤ B then dnRow C xs T B b (k + 1) z else dnRow C xs T B b k z := by
  unfold dnL
  rw [List.getD_eq_getElem?_getD, List.getElem?_map, List.getElem?_range hz]
  rfl
theorem dnL_step {C R T B k y : Nat} {xs : List Glyph} {b : Int} (h1 : T < y) (h2 : y ≤ B) (h3 : B < R) : (dnL C R xs T B b k y).set y ((dnL C R xs T B b k y).getD (y - 1) []) = dnL C R xs T B b k (y - 1) := by
  rw [dnL_at (by omega), if_neg (by omega)]
  refine List.ext_getElem (by simp [dnL]) fun i hi1 hi2 => ?_
  rw [List.getElem_set]
  simp only [dnL, List.getElem_map, List.getElem_range]
  by_cases e : y = i
  · subst e
    rw [if_pos rfl, if_pos ⟨by omega, h2⟩]
    unfold dnRow
    rw [if_pos (show T ≤ y - 1 ∧ y - 1 ≤ B by omega), if_pos (show T ≤ y ∧ y ≤ B by omega)]
    by_cases q : T + k ≤ y - 1
    · rw [if_pos q, if_pos (by omega), show y - 1 - k = y - (k + 1) from by omega]
    · rw [if_neg q, if_neg (by omega)]
  · rw [if_neg e]
    by_cases q : y < i ∧ i ≤ B
    · rw [if_pos q, if_pos ⟨by omega, q.2⟩]
    · rw [if_neg q, if_neg (by omega)]
theorem dnL_last {C R T B k : Nat} {xs : List Glyph} {b : Int} (h1 : T ≤ B) (h3 : B < R) : (dnL C R xs T B b k T).set T (List.replicate C (blank b)) = dnL C R xs T B b (k + 1) B := by
  refine List.ext_getElem (by simp [dnL]) fun i hi1 hi2 => ?_
  rw [List.getElem_set]
  simp only [dnL, List.getElem_map, List.getElem_range]
  rw [if_neg (show ¬ (B < i ∧ i ≤ B) by omega)]
  by_cases e : T = i
  · subst e
    rw [if_pos rfl]
    unfold dnRow
    rw [if_pos ⟨by omega, h1⟩, if_neg (by omega)]
  · rw [if_neg e]
    by_cases q : T < i ∧ i ≤ B
    · rw [if_pos q]
    · rw [if_neg q]
      unfold dnRow
      rw [if_neg (by omega), if_neg (by omega)]
theorem up_zero {C R T B : Nat} {xs : List Glyph} {b : Int} : upL C R xs T B b 0 T = rowsL C R xs := by
  unfold upL rowsL
  refine List.map_congr_left fun z _ => ?_
  rw [if_neg (by omega)]
  unfold upRow
  split
  · rename_i q
    rw [if_pos (by omega), Nat.add_zero]
  · rfl
theorem dn_zero {C R T B : Nat} {xs : List Glyph} {b : Int} : dnL C R xs T B b 0 B = rowsL C R xs := by
  unfold dnL rowsL
  refine List.map_congr_left fun z _ => ?_
  rw [if_neg (by omega)]
  unfold dnRow
  split
  · rename_i q
    rw [if_pos (by omega), Nat.sub_zero]
  · rfl
/-- Behind the rounds upwards (N) and k rounds downwards; one of both has none. -/
def shL (C R : Nat) (xs : List Glyph) (T B : Nat) (b : Int) (N N2 k : Nat) : List (List Glyph) := if N2 = 0 then upL C R xs T B b N T else dnL C R xs T B b k B
theorem sh_start {C R T B N N2 : Nat} {xs : List Glyph} {b : Int} (h : N = 0 ∨ N2 = 0) : upL C R xs T B b N T = shL C R xs T B b N N2 0 := by
  unfold shL
  split
  · rfl
  · obtain rfl : N = 0 := by omega
    rw [up_zero, dn_zero]
theorem sh_len {C R T B N N2 k : Nat} {xs : List Glyph} {b : Int} : (shL C R xs T B b N N2 k).length = R := by
  unfold shL
  split
  · simp [upL]
  · simp [dnL]
theorem sh_end {C R T B : Nat} {xs : List Glyph} {n f b : Int} (h : GridOk C R xs) (hp : penMay f b = true) (h1 : T ≤ B) (h2 : B < R) :
    ∃ M, scrollP C R xs T B n f b = M ∧ M.length = C * R ∧ shL C R xs T B b (min n 24).toNat (min (-n) 24).toNat (min (-n) 24).toNat = rowsL C R M := by
  have ok0 : (gridMay C R xs && penMay f b) = true := by rw [gmay_iff.2 ⟨C, R, rfl, rfl, h⟩, hp]; rfl
  have hn := h.2.2.2.2.1
  have hR := h.2.2.2.1
  by_cases h0 : n = 0
  · subst h0
    refine ⟨xs, ?_, hn, ?_⟩
    · unfold scrollP
      rw [if_pos ok0, if_pos (by omega)]
    · unfold shL
      rw [if_pos (by decide)]
      exact up_zero
  · obtain ⟨H, hH⟩ : ∃ H, B - T + 1 = H := ⟨_, rfl⟩
    obtain ⟨m, hm⟩ : ∃ m, max (-((B : Int) - T + 1)) (min n ((B : Int) - T + 1)) = m := ⟨_, rfl⟩
    have e1 : scrollP C R xs T B n f b = scrF C xs T B m b H := by
      unfold scrollP
      rw [if_pos ok0, if_neg (by omega), Int.toNat_natCast, hm]
      rw [show ((B : Int) - T + 1).toNat = H from by omega]
    have g1 : GridOk C R (scrF C xs T B m b H) := scrF_ok h hp h2 H (by omega)
    have r1 := fun z hz => scrF_row (n := m) (b := b) (T := T) hn h2 H (by omega) z hz
    refine ⟨_, e1, g1.2.2.2.2.1, ?_⟩
    obtain ⟨M1, hM1⟩ : ∃ M1, scrF C xs T B m b H = M1 := ⟨_, rfl⟩
    rw [hM1] at g1 r1 ⊢
    unfold shL
    by_cases hpos : 0 < n
    · rw [if_pos (by omega)]
      unfold upL rowsL
      refine List.map_congr_left fun z hz => ?_
      rw [if_neg (by omega), r1 z (List.mem_range.1 hz)]
      unfold upRow newRow
      by_cases q : T ≤ z ∧ z ≤ B
      · rw [if_pos q, if_pos (show T ≤ z ∧ z < T + H from ⟨q.1, by omega⟩)]
        by_cases q2 : z + (min n 24).toNat ≤ B
        · rw [if_pos q2, if_pos ⟨by omega, by omega⟩, show ((z : Int) + m).toNat = z + (min n 24).toNat from by omega]
        · rw [if_neg q2, if_neg (by omega)]
      · rw [if_neg q, if_neg (by omega)]
    · rw [if_neg (by omega)]
      unfold dnL rowsL
      refine List.map_congr_left fun z hz => ?_
      rw [if_neg (by omega), r1 z (List.mem_range.1 hz)]
      unfold dnRow newRow
      by_cases q : T ≤ z ∧ z ≤ B
      · rw [if_pos q, if_pos (show T ≤ z ∧ z < T + H from ⟨q.1, by omega⟩)]
        by_cases q2 : T + (min (-n) 24).toNat ≤ z
        · rw [if_pos q2, if_pos ⟨by omega, by omega⟩, show ((z : Int) + m).toNat = z - (min (-n) 24).toNat from by omega]
        · rw [if_neg q2, if_neg (by omega)]
      · rw [if_neg q, if_neg (by omega)]
end Go.Proofs.YtlhcehealjdbdaaDoor
