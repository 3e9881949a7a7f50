/- What the program makes of a grid and a call that turns a row. -/
import Derived.Test.YtlhcehealjdbdaaDoorGCall
import Derived.Deep.DeepCutAuto
namespace Go.Proofs.YtlhcehealjdbdaaDoor
open Go.RowKit
set_option linter.unusedSimpArgs false
set_option linter.unusedVariables false
attribute [local go_sem] alloc_drewN setCell_drewN


/-- A call of law 09. -/
structure Op9 where
  k : Int
  x : Int
  y : Int
  n : Int
  r : Int
  f : Int
  b : Int
  a : Int
  l : Int
noncomputable def tfo (o : Op9) (l' : List Glyph) : List Glyph := if o.k = 0 then putP l' o.x o.r o.f o.b o.a o.l else if o.k = 1 then insertP l' o.x o.n o.f o.b else deleteP l' o.x o.n o.f o.b
theorem tfo_row {o : Op9} (hp : penMay o.f o.b = true) {l' : List Glyph} (h : RowOk l') : RowOk (tfo o l') ∧ (tfo o l').length = l'.length := by
  have hok : (rowMay l' && penMay o.f o.b) = true := Bool.and_eq_true_iff.2 ⟨row_yes h, hp⟩
  unfold tfo
  split
  · exact ⟨put_row hok, put_len hok⟩
  · split
    · exact ⟨insert_row hok, insert_len hok⟩
    · exact ⟨delete_row hok, delete_len hok⟩
set_option maxRecDepth 10000 in
set_option maxHeartbeats 4000000 in
theorem gdo_turn (c r : Int) (o : Op9) (hk : 0 ≤ o.k ∧ o.k ≤ 2) (a : Option Addr) (n cp : Nat) (xs : List Glyph) (w : World) (hl : Cells w a n xs) (hcp : n ≤ cp) (ht : Tabs w) :
    Calls Tryd.prog 42 #[.agg #[.int .i64 c, .int .i64 r, .slice a n cp], .agg #[.int .i64 o.k, .int .i64 o.x, .int .i64 o.y, .int .i64 o.n, .int .i32 o.r, .int .u32 o.f, .int .u32 o.b, .int .u8 o.a, .int .u16 o.l]] w (GG (okI c r xs o.f o.b c) (okI c r xs o.f o.b r) (turnP c r xs o.y o.f o.b (tfo o)) w) := by
  obtain rfl := hl.1
  have HL := Lib.hid hl
  have HT := Lib.hid ht
  clear hl ht
  obtain ⟨k, x, y, m, rr, f, b, d, l⟩ := o
  obtain ⟨hk0, hk2⟩ := hk
  have B0 : Hid (Below w.heap.size w (((w.alloc (.cells #[.int .i64 c, .int .i64 r, .slice a xs.length cp] 49)).alloc (.cells #[.int .i64 k, .int .i64 x, .int .i64 y, .int .i64 m, .int .i32 rr, .int .u32 f, .int .u32 b, .int .u8 d, .int .u16 l] 68)).alloc (.cells #[.int .i64 0, .int .i64 0, .slice none 0 0] 49))) := (((Below.refl _ _).alloc (Nat.le_refl _) _).alloc (by simp) _).alloc (by simp; omega) _
  have G0 : Hid (Own (((w.alloc (.cells #[.int .i64 c, .int .i64 r, .slice a xs.length cp] 49)).alloc (.cells #[.int .i64 k, .int .i64 x, .int .i64 y, .int .i64 m, .int .i32 rr, .int .u32 f, .int .u32 b, .int .u8 d, .int .u16 l] 68)).alloc (.cells #[.int .i64 0, .int .i64 0, .slice none 0 0] 49)) w.heap.size 49 #[.int .i64 c, .int .i64 r, .slice a xs.length cp]) := ((Own.new w 49 _).alloc _).alloc _
  have P0' : Own (((w.alloc (.cells #[.int .i64 c, .int .i64 r, .slice a xs.length cp] 49)).alloc (.cells #[.int .i64 k, .int .i64 x, .int .i64 y, .int .i64 m, .int .i32 rr, .int .u32 f, .int .u32 b, .int .u8 d, .int .u16 l] 68)).alloc (.cells #[.int .i64 0, .int .i64 0, .slice none 0 0] 49)) (w.heap.size + 1) 68 #[.int .i64 k, .int .i64 x, .int .i64 y, .int .i64 m, .int .i32 rr, .int .u32 f, .int .u32 b, .int .u8 d, .int .u16 l] := by
    have h := (Own.new (w.alloc (.cells #[.int .i64 c, .int .i64 r, .slice a xs.length cp] 49)) 68 #[.int .i64 k, .int .i64 x, .int .i64 y, .int .i64 m, .int .i32 rr, .int .u32 f, .int .u32 b, .int .u8 d, .int .u16 l]).alloc (.cells #[.int .i64 0, .int .i64 0, .slice none 0 0] 49)
    simpa using h
  have A0' : Own (((w.alloc (.cells #[.int .i64 c, .int .i64 r, .slice a xs.length cp] 49)).alloc (.cells #[.int .i64 k, .int .i64 x, .int .i64 y, .int .i64 m, .int .i32 rr, .int .u32 f, .int .u32 b, .int .u8 d, .int .u16 l] 68)).alloc (.cells #[.int .i64 0, .int .i64 0, .slice none 0 0] 49)) (w.heap.size + 2) 49 #[.int .i64 0, .int .i64 0, .slice none 0 0] := by
    have h := Own.new ((w.alloc (.cells #[.int .i64 c, .int .i64 r, .slice a xs.length cp] 49)).alloc (.cells #[.int .i64 k, .int .i64 x, .int .i64 y, .int .i64 m, .int .i32 rr, .int .u32 f, .int .u32 b, .int .u8 d, .int .u16 l] 68)) 49 #[.int .i64 0, .int .i64 0, .slice none 0 0]
    simpa using h
  have A0 := Lib.hid A0'
  clear A0'
  have g0 := Own.cell G0.out 0
  have g1 := Own.cell G0.out 1
  have g2 := Own.cell G0.out 2
  simp only [List.getElem?_toArray, List.getElem?_cons_zero, List.getElem?_cons_succ] at g0 g1 g2
  have e0 := Own.cell P0' 0
  have e1 := Own.cell P0' 1
  have e2 := Own.cell P0' 2
  have e3 := Own.cell P0' 3
  have e4 := Own.cell P0' 4
  have e5 := Own.cell P0' 5
  have e6 := Own.cell P0' 6
  have e7 := Own.cell P0' 7
  have e8 := Own.cell P0' 8
  simp only [List.getElem?_toArray, List.getElem?_cons_zero, List.getElem?_cons_succ] at e0 e1 e2 e3 e4 e5 e6 e7 e8
  clear P0'
  rcases (by simp only at hk0 hk2; omega : k = 0 ∨ k = 1 ∨ k = 2) with rfl | rfl | rfl
  · clear hk0 hk2
    go_enter Tryd.func42, Tryd.ntmps42
    go_wp2_with fail
    generalize ((w.alloc (.cells #[.int .i64 c, .int .i64 r, .slice a xs.length cp] 49)).alloc (.cells #[.int .i64 0, .int .i64 x, .int .i64 y, .int .i64 m, .int .i32 rr, .int .u32 f, .int .u32 b, .int .u8 d, .int .u16 l] 68)).alloc (.cells #[.int .i64 0, .int .i64 0, .slice none 0 0] 49) = w0 at B0 G0 A0 g0 g1 g2 e0 e1 e2 e3 e4 e5 e6 e7 e8 ⊢
    clear g0 g1 g2 e0 e1 e2 e3 e4 e5 e6 e7 e8
    have htf : (fun l' => putP l' x rr f b d l) = tfo ⟨0, x, y, m, rr, f, b, d, l⟩ := rfl
    have HCALL := Lib.hid (gput_any c r x y rr f b d l a xs.length cp xs w0 (HL.out.below B0.out) hcp (HT.out.below B0.out))
    rw [htf] at HCALL
    clear htf
    refine HCALL.out.mono ?_
    clear HCALL
    obtain ⟨c2, hc2⟩ : ∃ c2, okI c r xs f b c = c2 := ⟨_, rfl⟩
    obtain ⟨r2, hr2⟩ : ∃ r2, okI c r xs f b r = r2 := ⟨_, rfl⟩
    obtain ⟨M, hM⟩ : ∃ M, turnP c r xs y f b (tfo ⟨0, x, y, m, rr, f, b, d, l⟩) = M := ⟨_, rfl⟩
    rw [hc2, hr2, hM]
    have HC2 := Lib.hid hc2
    have HR2 := Lib.hid hr2
    have HM := Lib.hid hM
    clear hc2 hr2 hM
    rintro e w1 ⟨v1, rfl, r1, b1⟩
    obtain ⟨va, vc, rfl, _⟩ := r1.cells
    have R1 := Lib.hid r1
    have B1 : Hid (Below w.heap.size w w1) := B0.out.trans (b1.mono B0.out.size)
    have A1 := Lib.hid (A0.out.below b1 A0.out.lt)
    clear r1 b1
    have hA := A1.out
    go_wp2_with (first
      | (refine gvstore_list rfl _ _ rfl (sa := va) (sc := vc) rfl rfl hA ?_; intro w2 o2 k2; have O2 := Lib.hid o2; have B2 : Hid (Below w.heap.size w w2) := below_grown B1.out k2 (by omega) B1.out.size; have R2 : Hid (CRow w2 w0.heap.size (.slice va M.length vc) M) := crow_other R1.out k2 (by have := A0.out.lt; exact this); clear o2 k2 hA)
      | go_in)
    have g0 := Own.cell O2.out 0
    have g1 := Own.cell O2.out 1
    have g2 := Own.cell O2.out 2
    simp only [List.getElem?_toArray, List.getElem?_cons_zero, List.getElem?_cons_succ] at g0 g1 g2
    (try simp only [Exit.inBlock, Exit.then])
    refine bodyPost_ret (v := .agg #[.int .i64 c2, .int .i64 r2, .slice va M.length vc]) (by simp [results, Tryd.results42, go_sem, g0, g1, g2]) rfl ?_
    exact ⟨_, by rw [← HC2.out, ← HR2.out], by rw [← HM.out] at R2 ⊢; exact R2.out.up B0.out.size, B2.out⟩
  · clear hk0 hk2
    go_enter Tryd.func42, Tryd.ntmps42
    go_wp2_with fail
    generalize ((w.alloc (.cells #[.int .i64 c, .int .i64 r, .slice a xs.length cp] 49)).alloc (.cells #[.int .i64 1, .int .i64 x, .int .i64 y, .int .i64 m, .int .i32 rr, .int .u32 f, .int .u32 b, .int .u8 d, .int .u16 l] 68)).alloc (.cells #[.int .i64 0, .int .i64 0, .slice none 0 0] 49) = w0 at B0 G0 A0 g0 g1 g2 e0 e1 e2 e3 e4 e5 e6 e7 e8 ⊢
    clear g0 g1 g2 e0 e1 e2 e3 e4 e5 e6 e7 e8
    have htf : (fun l' => insertP l' x m f b) = tfo ⟨1, x, y, m, rr, f, b, d, l⟩ := rfl
    have HCALL := Lib.hid (ginsert_any c r x y m f b d l a xs.length cp xs w0 (HL.out.below B0.out) hcp (HT.out.below B0.out))
    rw [htf] at HCALL
    clear htf
    refine HCALL.out.mono ?_
    clear HCALL
    obtain ⟨c2, hc2⟩ : ∃ c2, okI c r xs f b c = c2 := ⟨_, rfl⟩
    obtain ⟨r2, hr2⟩ : ∃ r2, okI c r xs f b r = r2 := ⟨_, rfl⟩
    obtain ⟨M, hM⟩ : ∃ M, turnP c r xs y f b (tfo ⟨1, x, y, m, rr, f, b, d, l⟩) = M := ⟨_, rfl⟩
    rw [hc2, hr2, hM]
    have HC2 := Lib.hid hc2
    have HR2 := Lib.hid hr2
    have HM := Lib.hid hM
    clear hc2 hr2 hM
    rintro e w1 ⟨v1, rfl, r1, b1⟩
    obtain ⟨va, vc, rfl, _⟩ := r1.cells
    have R1 := Lib.hid r1
    have B1 : Hid (Below w.heap.size w w1) := B0.out.trans (b1.mono B0.out.size)
    have A1 := Lib.hid (A0.out.below b1 A0.out.lt)
    clear r1 b1
    have hA := A1.out
    go_wp2_with (first
      | (refine gvstore_list rfl _ _ rfl (sa := va) (sc := vc) rfl rfl hA ?_; intro w2 o2 k2; have O2 := Lib.hid o2; have B2 : Hid (Below w.heap.size w w2) := below_grown B1.out k2 (by omega) B1.out.size; have R2 : Hid (CRow w2 w0.heap.size (.slice va M.length vc) M) := crow_other R1.out k2 (by have := A0.out.lt; exact this); clear o2 k2 hA)
      | go_in)
    have g0 := Own.cell O2.out 0
    have g1 := Own.cell O2.out 1
    have g2 := Own.cell O2.out 2
    simp only [List.getElem?_toArray, List.getElem?_cons_zero, List.getElem?_cons_succ] at g0 g1 g2
    (try simp only [Exit.inBlock, Exit.then])
    refine bodyPost_ret (v := .agg #[.int .i64 c2, .int .i64 r2, .slice va M.length vc]) (by simp [results, Tryd.results42, go_sem, g0, g1, g2]) rfl ?_
    exact ⟨_, by rw [← HC2.out, ← HR2.out], by rw [← HM.out] at R2 ⊢; exact R2.out.up B0.out.size, B2.out⟩
  · clear hk0 hk2
    go_enter Tryd.func42, Tryd.ntmps42
    go_wp2_with fail
    generalize ((w.alloc (.cells #[.int .i64 c, .int .i64 r, .slice a xs.length cp] 49)).alloc (.cells #[.int .i64 2, .int .i64 x, .int .i64 y, .int .i64 m, .int .i32 rr, .int .u32 f, .int .u32 b, .int .u8 d, .int .u16 l] 68)).alloc (.cells #[.int .i64 0, .int .i64 0, .slice none 0 0] 49) = w0 at B0 G0 A0 g0 g1 g2 e0 e1 e2 e3 e4 e5 e6 e7 e8 ⊢
    clear g0 g1 g2 e0 e1 e2 e3 e4 e5 e6 e7 e8
    have htf : (fun l' => deleteP l' x m f b) = tfo ⟨2, x, y, m, rr, f, b, d, l⟩ := rfl
    have HCALL := Lib.hid (gdelete_any c r x y m f b d l a xs.length cp xs w0 (HL.out.below B0.out) hcp (HT.out.below B0.out))
    rw [htf] at HCALL
    clear htf
    refine HCALL.out.mono ?_
    clear HCALL
    obtain ⟨c2, hc2⟩ : ∃ c2, okI c r xs f b c = c2 := ⟨_, rfl⟩
    obtain ⟨r2, hr2⟩ : ∃ r2, okI c r xs f b r = r2 := ⟨_, rfl⟩
    obtain ⟨M, hM⟩ : ∃ M, turnP c r xs y f b (tfo ⟨2, x, y, m, rr, f, b, d, l⟩) = M := ⟨_, rfl⟩
    rw [hc2, hr2, hM]
    have HC2 := Lib.hid hc2
    have HR2 := Lib.hid hr2
    have HM := Lib.hid hM
    clear hc2 hr2 hM
    rintro e w1 ⟨v1, rfl, r1, b1⟩
    obtain ⟨va, vc, rfl, _⟩ := r1.cells
    have R1 := Lib.hid r1
    have B1 : Hid (Below w.heap.size w w1) := B0.out.trans (b1.mono B0.out.size)
    have A1 := Lib.hid (A0.out.below b1 A0.out.lt)
    clear r1 b1
    have hA := A1.out
    go_wp2_with (first
      | (refine gvstore_list rfl _ _ rfl (sa := va) (sc := vc) rfl rfl hA ?_; intro w2 o2 k2; have O2 := Lib.hid o2; have B2 : Hid (Below w.heap.size w w2) := below_grown B1.out k2 (by omega) B1.out.size; have R2 : Hid (CRow w2 w0.heap.size (.slice va M.length vc) M) := crow_other R1.out k2 (by have := A0.out.lt; exact this); clear o2 k2 hA)
      | go_in)
    have g0 := Own.cell O2.out 0
    have g1 := Own.cell O2.out 1
    have g2 := Own.cell O2.out 2
    simp only [List.getElem?_toArray, List.getElem?_cons_zero, List.getElem?_cons_succ] at g0 g1 g2
    (try simp only [Exit.inBlock, Exit.then])
    refine bodyPost_ret (v := .agg #[.int .i64 c2, .int .i64 r2, .slice va M.length vc]) (by simp [results, Tryd.results42, go_sem, g0, g1, g2]) rfl ?_
    exact ⟨_, by rw [← HC2.out, ← HR2.out], by rw [← HM.out] at R2 ⊢; exact R2.out.up B0.out.size, B2.out⟩
end Go.Proofs.YtlhcehealjdbdaaDoor
