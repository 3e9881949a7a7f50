/- Grids with a rune put in a row, with blanks put in, with cells taken out. -/
import Derived.Test.YtlhcehealjdbdaaDoorGTurn73
import Derived.Test.YtlhcehealjdbdaaDoorGTurn75
import Derived.Test.YtlhcehealjdbdaaDoorGTurn76
import Derived.Test.YtlhcehealjdbdaaDoorCShifts
import Derived.Deep.DeepCutAuto
namespace Go.Proofs.YtlhcehealjdbdaaDoor
open Go.RowKit
set_option linter.unusedSimpArgs false
set_option linter.unusedVariables false
attribute [local go_sem] alloc_drewN setCell_drewN


/-- The closure. -/
theorem gput_cl (x rr f b d l : Int) (b1 b2 b3 : Nat) (a : Option Addr) (n c : Nat) (xs : List Glyph) (w : World) (hx : w.cell? ⟨b1, 0, none⟩ = some (.int .i64 x)) (hr : w.cell? ⟨b2, 0, none⟩ = some (.int .i32 rr)) (hp : InkAt w b3 f b d l) (hl : Cells w a n xs) (ht : Tabs w) :
    Calls Tryd.prog 73 #[.slice a n c, .pointer (some ⟨b1, 0, none⟩), .pointer (some ⟨b2, 0, none⟩), .pointer (some ⟨b3, 0, none⟩)] w (GPost (putP xs x rr f b d l) w) := by
  have HCALL := Lib.hid (put_any a n c x rr f b d l xs w hl ht)
  obtain ⟨p0, p1, p2, p3⟩ := hp
  clear hl ht
  go_enter Tryd.func73, Tryd.ntmps73
  go_wp2_with fail
  refine HCALL.out.mono ?_
  rintro e w1 ⟨v1, rfl, r1, b1⟩
  have R1 := Lib.hid r1
  have B1 := Lib.hid b1
  clear r1 b1
  go_wp2_with fail
  go_ret
  exact ⟨_, rfl, R1.out, B1.out⟩
set_option maxRecDepth 10000 in
set_option maxHeartbeats 2000000 in
theorem gput_any (c r x y rr f b d l : Int) (a : Option Addr) (n cp : Nat) (xs : List Glyph) (w : World) (hl : Cells w a n xs) (hcp : n ≤ cp) (ht : Tabs w) :
    Calls Tryd.prog 57 #[.agg #[.int .i64 c, .int .i64 r, .slice a n cp], .int .i64 x, .int .i64 y, .int .i32 rr, .agg #[.int .u32 f, .int .u32 b, .int .u8 d, .int .u16 l]] w (GG (okI c r xs f b c) (okI c r xs f b r) (turnP c r xs y f b (fun l' => putP l' x rr f b d l)) w) := by
  obtain rfl := hl.1
  have HL := Lib.hid hl
  have HT := Lib.hid ht
  clear hl ht
  have hmf : ∀ (fn : Fn) (first cap : Array Value) (w : World), (Instr.makeFunc fn first cap).run Tryd.prog w = .ok (.func fn first cap) w := fun _ _ _ _ => rfl
  have B0 : Hid (Below w.heap.size w (((((w.alloc (.cells #[.int .i64 c, .int .i64 r, .slice a xs.length cp] 49)).alloc (.cells #[.int .i64 x] 3)).alloc (.cells #[.int .i32 rr] 21)).alloc (.cells #[.int .u32 f, .int .u32 b, .int .u8 d, .int .u16 l] 26)).alloc (.cells #[.int .i64 0, .int .i64 0, .slice none 0 0] 49))) := (((((Below.refl _ _).alloc (Nat.le_refl _) _).alloc (by simp) _).alloc (by simp; omega) _).alloc (by simp; omega) _).alloc (by simp; omega) _
  have hz0 : (((((w.alloc (.cells #[.int .i64 c, .int .i64 r, .slice a xs.length cp] 49)).alloc (.cells #[.int .i64 x] 3)).alloc (.cells #[.int .i32 rr] 21)).alloc (.cells #[.int .u32 f, .int .u32 b, .int .u8 d, .int .u16 l] 26)).alloc (.cells #[.int .i64 0, .int .i64 0, .slice none 0 0] 49)).heap.size = w.heap.size + 5 := by simp
  have G0 : Hid (Own (((((w.alloc (.cells #[.int .i64 c, .int .i64 r, .slice a xs.length cp] 49)).alloc (.cells #[.int .i64 x] 3)).alloc (.cells #[.int .i32 rr] 21)).alloc (.cells #[.int .u32 f, .int .u32 b, .int .u8 d, .int .u16 l] 26)).alloc (.cells #[.int .i64 0, .int .i64 0, .slice none 0 0] 49)) w.heap.size 49 #[.int .i64 c, .int .i64 r, .slice a xs.length cp]) := ((((Own.new w 49 _).alloc _).alloc _).alloc _).alloc _
  have X0' : Own (((((w.alloc (.cells #[.int .i64 c, .int .i64 r, .slice a xs.length cp] 49)).alloc (.cells #[.int .i64 x] 3)).alloc (.cells #[.int .i32 rr] 21)).alloc (.cells #[.int .u32 f, .int .u32 b, .int .u8 d, .int .u16 l] 26)).alloc (.cells #[.int .i64 0, .int .i64 0, .slice none 0 0] 49)) (w.heap.size + 1) 3 #[.int .i64 x] := by
    have h := (((Own.new (w.alloc (.cells #[.int .i64 c, .int .i64 r, .slice a xs.length cp] 49)) 3 #[.int .i64 x]).alloc (.cells #[.int .i32 rr] 21)).alloc (.cells #[.int .u32 f, .int .u32 b, .int .u8 d, .int .u16 l] 26)).alloc (.cells #[.int .i64 0, .int .i64 0, .slice none 0 0] 49)
    simpa using h
  have R0' : Own (((((w.alloc (.cells #[.int .i64 c, .int .i64 r, .slice a xs.length cp] 49)).alloc (.cells #[.int .i64 x] 3)).alloc (.cells #[.int .i32 rr] 21)).alloc (.cells #[.int .u32 f, .int .u32 b, .int .u8 d, .int .u16 l] 26)).alloc (.cells #[.int .i64 0, .int .i64 0, .slice none 0 0] 49)) (w.heap.size + 2) 21 #[.int .i32 rr] := by
    have h := ((Own.new ((w.alloc (.cells #[.int .i64 c, .int .i64 r, .slice a xs.length cp] 49)).alloc (.cells #[.int .i64 x] 3)) 21 #[.int .i32 rr]).alloc (.cells #[.int .u32 f, .int .u32 b, .int .u8 d, .int .u16 l] 26)).alloc (.cells #[.int .i64 0, .int .i64 0, .slice none 0 0] 49)
    simpa using h
  have P0' : Own (((((w.alloc (.cells #[.int .i64 c, .int .i64 r, .slice a xs.length cp] 49)).alloc (.cells #[.int .i64 x] 3)).alloc (.cells #[.int .i32 rr] 21)).alloc (.cells #[.int .u32 f, .int .u32 b, .int .u8 d, .int .u16 l] 26)).alloc (.cells #[.int .i64 0, .int .i64 0, .slice none 0 0] 49)) (w.heap.size + 3) 26 #[.int .u32 f, .int .u32 b, .int .u8 d, .int .u16 l] := by
    have h := (Own.new (((w.alloc (.cells #[.int .i64 c, .int .i64 r, .slice a xs.length cp] 49)).alloc (.cells #[.int .i64 x] 3)).alloc (.cells #[.int .i32 rr] 21)) 26 #[.int .u32 f, .int .u32 b, .int .u8 d, .int .u16 l]).alloc (.cells #[.int .i64 0, .int .i64 0, .slice none 0 0] 49)
    simpa using h
  have A0' : Own (((((w.alloc (.cells #[.int .i64 c, .int .i64 r, .slice a xs.length cp] 49)).alloc (.cells #[.int .i64 x] 3)).alloc (.cells #[.int .i32 rr] 21)).alloc (.cells #[.int .u32 f, .int .u32 b, .int .u8 d, .int .u16 l] 26)).alloc (.cells #[.int .i64 0, .int .i64 0, .slice none 0 0] 49)) (w.heap.size + 4) 49 #[.int .i64 0, .int .i64 0, .slice none 0 0] := by
    have h := Own.new ((((w.alloc (.cells #[.int .i64 c, .int .i64 r, .slice a xs.length cp] 49)).alloc (.cells #[.int .i64 x] 3)).alloc (.cells #[.int .i32 rr] 21)).alloc (.cells #[.int .u32 f, .int .u32 b, .int .u8 d, .int .u16 l] 26)) 49 #[.int .i64 0, .int .i64 0, .slice none 0 0]
    simpa using h
  have X0 := Lib.hid X0'
  have R0 := Lib.hid R0'
  have P0 := Lib.hid P0'
  have A0 := Lib.hid A0'
  clear X0' R0' P0' A0'
  have g0 := Own.cell G0.out 0
  have g1 := Own.cell G0.out 1
  have g2 := Own.cell G0.out 2
  simp only [List.getElem?_toArray, List.getElem?_cons_zero, List.getElem?_cons_succ] at g0 g1 g2
  have e0 := Own.cell P0.out 0
  have e1 := Own.cell P0.out 1
  have e2 := Own.cell P0.out 2
  have e3 := Own.cell P0.out 3
  simp only [List.getElem?_toArray, List.getElem?_cons_zero, List.getElem?_cons_succ] at e0 e1 e2 e3
  go_enter Tryd.func57, Tryd.ntmps57
  go_wp2_with fail
  generalize ((((w.alloc (.cells #[.int .i64 c, .int .i64 r, .slice a xs.length cp] 49)).alloc (.cells #[.int .i64 x] 3)).alloc (.cells #[.int .i32 rr] 21)).alloc (.cells #[.int .u32 f, .int .u32 b, .int .u8 d, .int .u16 l] 26)).alloc (.cells #[.int .i64 0, .int .i64 0, .slice none 0 0] 49) = w0 at B0 hz0 G0 X0 R0 P0 A0 g0 g1 g2 e0 e1 e2 e3 ⊢
  clear g0 g1 g2 e0 e1 e2 e3
  refine (turned73_any c r y f b d l ⟨w.heap.size + 1, 0, none⟩ ⟨w.heap.size + 1 + 1, 0, none⟩ ⟨w.heap.size + 1 + 1 + 1, 0, none⟩ (fun l' => putP l' x rr f b d l) a xs.length cp xs w0 (HL.out.below B0.out) hcp (HT.out.below B0.out)
    (fun a' n' c' l' w' hb hc => gput_cl x rr f b d l _ _ _ a' n' c' l' w' ((hb.cell (p := ⟨w.heap.size + 1, 0, none⟩) (by show w.heap.size + 1 < w0.heap.size; omega)).trans (Own.cell X0.out 0)) ((hb.cell (p := ⟨w.heap.size + 1 + 1, 0, none⟩) (by show w.heap.size + 1 + 1 < w0.heap.size; omega)).trans (Own.cell R0.out 0)) ((ink_of P0.out).below hb (by omega)) hc ((HT.out.below B0.out).below hb)) (fun hp l' h => put_len (Bool.and_eq_true_iff.2 ⟨row_yes h, hp⟩))).mono ?_
  obtain ⟨M, hM⟩ : ∃ M, turnP c r xs y f b (fun l' => putP l' x rr f b d l) = M := ⟨_, rfl⟩
  obtain ⟨c2, hc2⟩ : ∃ c2, okI c r xs f b c = c2 := ⟨_, rfl⟩
  obtain ⟨r2, hr2⟩ : ∃ r2, okI c r xs f b r = r2 := ⟨_, rfl⟩
  rw [hM, hc2, hr2]
  have HM := Lib.hid hM
  have HC2 := Lib.hid hc2
  have HR2 := Lib.hid hr2
  clear hM hc2 hr2
  rintro e w1 ⟨v1, rfl, r1, b1⟩
  obtain ⟨va, vc, rfl, _⟩ := r1.cells
  have R1 := Lib.hid r1
  have B1 : Hid (Below w.heap.size w w1) := B0.out.trans (b1.mono B0.out.size)
  have A1 := Lib.hid (A0.out.below b1 A0.out.lt)
  clear r1 b1
  have hA := A1.out
  go_wp2_with (first
    | (refine gvstore_list rfl _ _ rfl (sa := va) (sc := vc) rfl rfl hA ?_; intro w2 o2 k2; have O2 := Lib.hid o2; have B2 : Hid (Below w.heap.size w w2) := below_grown B1.out k2 (by omega) B1.out.size; have R2 := Lib.hid (crow_other R1.out k2 (by omega)); clear o2 k2 hA)
    | go_in)
  have g0 := Own.cell O2.out 0
  have g1 := Own.cell O2.out 1
  have g2 := Own.cell O2.out 2
  simp only [List.getElem?_toArray, List.getElem?_cons_zero, List.getElem?_cons_succ] at g0 g1 g2
  (try simp only [Exit.inBlock, Exit.then])
  refine bodyPost_ret (v := .agg #[.int .i64 c2, .int .i64 r2, .slice va M.length vc]) (by simp [results, Tryd.results57, go_sem, g0, g1, g2]) rfl ?_
  rw [HM.out, HC2.out, HR2.out]
  exact ⟨_, rfl, R2.out.up B0.out.size, B2.out⟩

/-- The closure. -/
theorem ginsert_cl (x m f b d l : Int) (b1 b2 b3 : Nat) (a : Option Addr) (n c : Nat) (xs : List Glyph) (w : World) (hx : w.cell? ⟨b1, 0, none⟩ = some (.int .i64 x)) (hr : w.cell? ⟨b2, 0, none⟩ = some (.int .i64 m)) (hp : InkAt w b3 f b d l) (hl : Cells w a n xs) (ht : Tabs w) :
    Calls Tryd.prog 75 #[.slice a n c, .pointer (some ⟨b1, 0, none⟩), .pointer (some ⟨b2, 0, none⟩), .pointer (some ⟨b3, 0, none⟩)] w (GPost (insertP xs x m f b) w) := by
  have HCALL := Lib.hid (insert_any a n c x m f b d l xs w hl ht)
  obtain ⟨p0, p1, p2, p3⟩ := hp
  clear hl ht
  go_enter Tryd.func75, Tryd.ntmps75
  go_wp2_with fail
  refine HCALL.out.mono ?_
  rintro e w1 ⟨v1, rfl, r1, b1⟩
  have R1 := Lib.hid r1
  have B1 := Lib.hid b1
  clear r1 b1
  go_wp2_with fail
  go_ret
  exact ⟨_, rfl, R1.out, B1.out⟩
set_option maxRecDepth 10000 in
set_option maxHeartbeats 2000000 in
theorem ginsert_any (c r x y m f b d l : Int) (a : Option Addr) (n cp : Nat) (xs : List Glyph) (w : World) (hl : Cells w a n xs) (hcp : n ≤ cp) (ht : Tabs w) :
    Calls Tryd.prog 61 #[.agg #[.int .i64 c, .int .i64 r, .slice a n cp], .int .i64 x, .int .i64 y, .int .i64 m, .agg #[.int .u32 f, .int .u32 b, .int .u8 d, .int .u16 l]] w (GG (okI c r xs f b c) (okI c r xs f b r) (turnP c r xs y f b (fun l' => insertP l' x m f b)) w) := by
  obtain rfl := hl.1
  have HL := Lib.hid hl
  have HT := Lib.hid ht
  clear hl ht
  have hmf : ∀ (fn : Fn) (first cap : Array Value) (w : World), (Instr.makeFunc fn first cap).run Tryd.prog w = .ok (.func fn first cap) w := fun _ _ _ _ => rfl
  have B0 : Hid (Below w.heap.size w (((((w.alloc (.cells #[.int .i64 c, .int .i64 r, .slice a xs.length cp] 49)).alloc (.cells #[.int .i64 x] 3)).alloc (.cells #[.int .i64 m] 3)).alloc (.cells #[.int .u32 f, .int .u32 b, .int .u8 d, .int .u16 l] 26)).alloc (.cells #[.int .i64 0, .int .i64 0, .slice none 0 0] 49))) := (((((Below.refl _ _).alloc (Nat.le_refl _) _).alloc (by simp) _).alloc (by simp; omega) _).alloc (by simp; omega) _).alloc (by simp; omega) _
  have hz0 : (((((w.alloc (.cells #[.int .i64 c, .int .i64 r, .slice a xs.length cp] 49)).alloc (.cells #[.int .i64 x] 3)).alloc (.cells #[.int .i64 m] 3)).alloc (.cells #[.int .u32 f, .int .u32 b, .int .u8 d, .int .u16 l] 26)).alloc (.cells #[.int .i64 0, .int .i64 0, .slice none 0 0] 49)).heap.size = w.heap.size + 5 := by simp
  have G0 : Hid (Own (((((w.alloc (.cells #[.int .i64 c, .int .i64 r, .slice a xs.length cp] 49)).alloc (.cells #[.int .i64 x] 3)).alloc (.cells #[.int .i64 m] 3)).alloc (.cells #[.int .u32 f, .int .u32 b, .int .u8 d, .int .u16 l] 26)).alloc (.cells #[.int .i64 0, .int .i64 0, .slice none 0 0] 49)) w.heap.size 49 #[.int .i64 c, .int .i64 r, .slice a xs.length cp]) := ((((Own.new w 49 _).alloc _).alloc _).alloc _).alloc _
  have X0' : Own (((((w.alloc (.cells #[.int .i64 c, .int .i64 r, .slice a xs.length cp] 49)).alloc (.cells #[.int .i64 x] 3)).alloc (.cells #[.int .i64 m] 3)).alloc (.cells #[.int .u32 f, .int .u32 b, .int .u8 d, .int .u16 l] 26)).alloc (.cells #[.int .i64 0, .int .i64 0, .slice none 0 0] 49)) (w.heap.size + 1) 3 #[.int .i64 x] := by
    have h := (((Own.new (w.alloc (.cells #[.int .i64 c, .int .i64 r, .slice a xs.length cp] 49)) 3 #[.int .i64 x]).alloc (.cells #[.int .i64 m] 3)).alloc (.cells #[.int .u32 f, .int .u32 b, .int .u8 d, .int .u16 l] 26)).alloc (.cells #[.int .i64 0, .int .i64 0, .slice none 0 0] 49)
    simpa using h
  have R0' : Own (((((w.alloc (.cells #[.int .i64 c, .int .i64 r, .slice a xs.length cp] 49)).alloc (.cells #[.int .i64 x] 3)).alloc (.cells #[.int .i64 m] 3)).alloc (.cells #[.int .u32 f, .int .u32 b, .int .u8 d, .int .u16 l] 26)).alloc (.cells #[.int .i64 0, .int .i64 0, .slice none 0 0] 49)) (w.heap.size + 2) 3 #[.int .i64 m] := by
    have h := ((Own.new ((w.alloc (.cells #[.int .i64 c, .int .i64 r, .slice a xs.length cp] 49)).alloc (.cells #[.int .i64 x] 3)) 3 #[.int .i64 m]).alloc (.cells #[.int .u32 f, .int .u32 b, .int .u8 d, .int .u16 l] 26)).alloc (.cells #[.int .i64 0, .int .i64 0, .slice none 0 0] 49)
    simpa using h
  have P0' : Own (((((w.alloc (.cells #[.int .i64 c, .int .i64 r, .slice a xs.length cp] 49)).alloc (.cells #[.int .i64 x] 3)).alloc (.cells #[.int .i64 m] 3)).alloc (.cells #[.int .u32 f, .int .u32 b, .int .u8 d, .int .u16 l] 26)).alloc (.cells #[.int .i64 0, .int .i64 0, .slice none 0 0] 49)) (w.heap.size + 3) 26 #[.int .u32 f, .int .u32 b, .int .u8 d, .int .u16 l] := by
    have h := (Own.new (((w.alloc (.cells #[.int .i64 c, .int .i64 r, .slice a xs.length cp] 49)).alloc (.cells #[.int .i64 x] 3)).alloc (.cells #[.int .i64 m] 3)) 26 #[.int .u32 f, .int .u32 b, .int .u8 d, .int .u16 l]).alloc (.cells #[.int .i64 0, .int .i64 0, .slice none 0 0] 49)
    simpa using h
  have A0' : Own (((((w.alloc (.cells #[.int .i64 c, .int .i64 r, .slice a xs.length cp] 49)).alloc (.cells #[.int .i64 x] 3)).alloc (.cells #[.int .i64 m] 3)).alloc (.cells #[.int .u32 f, .int .u32 b, .int .u8 d, .int .u16 l] 26)).alloc (.cells #[.int .i64 0, .int .i64 0, .slice none 0 0] 49)) (w.heap.size + 4) 49 #[.int .i64 0, .int .i64 0, .slice none 0 0] := by
    have h := Own.new ((((w.alloc (.cells #[.int .i64 c, .int .i64 r, .slice a xs.length cp] 49)).alloc (.cells #[.int .i64 x] 3)).alloc (.cells #[.int .i64 m] 3)).alloc (.cells #[.int .u32 f, .int .u32 b, .int .u8 d, .int .u16 l] 26)) 49 #[.int .i64 0, .int .i64 0, .slice none 0 0]
    simpa using h
  have X0 := Lib.hid X0'
  have R0 := Lib.hid R0'
  have P0 := Lib.hid P0'
  have A0 := Lib.hid A0'
  clear X0' R0' P0' A0'
  have g0 := Own.cell G0.out 0
  have g1 := Own.cell G0.out 1
  have g2 := Own.cell G0.out 2
  simp only [List.getElem?_toArray, List.getElem?_cons_zero, List.getElem?_cons_succ] at g0 g1 g2
  have e0 := Own.cell P0.out 0
  have e1 := Own.cell P0.out 1
  have e2 := Own.cell P0.out 2
  have e3 := Own.cell P0.out 3
  simp only [List.getElem?_toArray, List.getElem?_cons_zero, List.getElem?_cons_succ] at e0 e1 e2 e3
  go_enter Tryd.func61, Tryd.ntmps61
  go_wp2_with fail
  generalize ((((w.alloc (.cells #[.int .i64 c, .int .i64 r, .slice a xs.length cp] 49)).alloc (.cells #[.int .i64 x] 3)).alloc (.cells #[.int .i64 m] 3)).alloc (.cells #[.int .u32 f, .int .u32 b, .int .u8 d, .int .u16 l] 26)).alloc (.cells #[.int .i64 0, .int .i64 0, .slice none 0 0] 49) = w0 at B0 hz0 G0 X0 R0 P0 A0 g0 g1 g2 e0 e1 e2 e3 ⊢
  clear g0 g1 g2 e0 e1 e2 e3
  refine (turned75_any c r y f b d l ⟨w.heap.size + 1, 0, none⟩ ⟨w.heap.size + 1 + 1, 0, none⟩ ⟨w.heap.size + 1 + 1 + 1, 0, none⟩ (fun l' => insertP l' x m f b) a xs.length cp xs w0 (HL.out.below B0.out) hcp (HT.out.below B0.out)
    (fun a' n' c' l' w' hb hc => ginsert_cl x m f b d l _ _ _ a' n' c' l' w' ((hb.cell (p := ⟨w.heap.size + 1, 0, none⟩) (by show w.heap.size + 1 < w0.heap.size; omega)).trans (Own.cell X0.out 0)) ((hb.cell (p := ⟨w.heap.size + 1 + 1, 0, none⟩) (by show w.heap.size + 1 + 1 < w0.heap.size; omega)).trans (Own.cell R0.out 0)) ((ink_of P0.out).below hb (by omega)) hc ((HT.out.below B0.out).below hb)) (fun hp l' h => insert_len (Bool.and_eq_true_iff.2 ⟨row_yes h, hp⟩))).mono ?_
  obtain ⟨M, hM⟩ : ∃ M, turnP c r xs y f b (fun l' => insertP l' x m f b) = M := ⟨_, rfl⟩
  obtain ⟨c2, hc2⟩ : ∃ c2, okI c r xs f b c = c2 := ⟨_, rfl⟩
  obtain ⟨r2, hr2⟩ : ∃ r2, okI c r xs f b r = r2 := ⟨_, rfl⟩
  rw [hM, hc2, hr2]
  have HM := Lib.hid hM
  have HC2 := Lib.hid hc2
  have HR2 := Lib.hid hr2
  clear hM hc2 hr2
  rintro e w1 ⟨v1, rfl, r1, b1⟩
  obtain ⟨va, vc, rfl, _⟩ := r1.cells
  have R1 := Lib.hid r1
  have B1 : Hid (Below w.heap.size w w1) := B0.out.trans (b1.mono B0.out.size)
  have A1 := Lib.hid (A0.out.below b1 A0.out.lt)
  clear r1 b1
  have hA := A1.out
  go_wp2_with (first
    | (refine gvstore_list rfl _ _ rfl (sa := va) (sc := vc) rfl rfl hA ?_; intro w2 o2 k2; have O2 := Lib.hid o2; have B2 : Hid (Below w.heap.size w w2) := below_grown B1.out k2 (by omega) B1.out.size; have R2 := Lib.hid (crow_other R1.out k2 (by omega)); clear o2 k2 hA)
    | go_in)
  have g0 := Own.cell O2.out 0
  have g1 := Own.cell O2.out 1
  have g2 := Own.cell O2.out 2
  simp only [List.getElem?_toArray, List.getElem?_cons_zero, List.getElem?_cons_succ] at g0 g1 g2
  (try simp only [Exit.inBlock, Exit.then])
  refine bodyPost_ret (v := .agg #[.int .i64 c2, .int .i64 r2, .slice va M.length vc]) (by simp [results, Tryd.results61, go_sem, g0, g1, g2]) rfl ?_
  rw [HM.out, HC2.out, HR2.out]
  exact ⟨_, rfl, R2.out.up B0.out.size, B2.out⟩

/-- The closure. -/
theorem gdelete_cl (x m f b d l : Int) (b1 b2 b3 : Nat) (a : Option Addr) (n c : Nat) (xs : List Glyph) (w : World) (hx : w.cell? ⟨b1, 0, none⟩ = some (.int .i64 x)) (hr : w.cell? ⟨b2, 0, none⟩ = some (.int .i64 m)) (hp : InkAt w b3 f b d l) (hl : Cells w a n xs) (ht : Tabs w) :
    Calls Tryd.prog 76 #[.slice a n c, .pointer (some ⟨b1, 0, none⟩), .pointer (some ⟨b2, 0, none⟩), .pointer (some ⟨b3, 0, none⟩)] w (GPost (deleteP xs x m f b) w) := by
  have HCALL := Lib.hid (delete_any a n c x m f b d l xs w hl ht)
  obtain ⟨p0, p1, p2, p3⟩ := hp
  clear hl ht
  go_enter Tryd.func76, Tryd.ntmps76
  go_wp2_with fail
  refine HCALL.out.mono ?_
  rintro e w1 ⟨v1, rfl, r1, b1⟩
  have R1 := Lib.hid r1
  have B1 := Lib.hid b1
  clear r1 b1
  go_wp2_with fail
  go_ret
  exact ⟨_, rfl, R1.out, B1.out⟩
set_option maxRecDepth 10000 in
set_option maxHeartbeats 2000000 in
theorem gdelete_any (c r x y m f b d l : Int) (a : Option Addr) (n cp : Nat) (xs : List Glyph) (w : World) (hl : Cells w a n xs) (hcp : n ≤ cp) (ht : Tabs w) :
    Calls Tryd.prog 62 #[.agg #[.int .i64 c, .int .i64 r, .slice a n cp], .int .i64 x, .int .i64 y, .int .i64 m, .agg #[.int .u32 f, .int .u32 b, .int .u8 d, .int .u16 l]] w (GG (okI c r xs f b c) (okI c r xs f b r) (turnP c r xs y f b (fun l' => deleteP l' x m f b)) w) := by
  obtain rfl := hl.1
  have HL := Lib.hid hl
  have HT := Lib.hid ht
  clear hl ht
  have hmf : ∀ (fn : Fn) (first cap : Array Value) (w : World), (Instr.makeFunc fn first cap).run Tryd.prog w = .ok (.func fn first cap) w := fun _ _ _ _ => rfl
  have B0 : Hid (Below w.heap.size w (((((w.alloc (.cells #[.int .i64 c, .int .i64 r, .slice a xs.length cp] 49)).alloc (.cells #[.int .i64 x] 3)).alloc (.cells #[.int .i64 m] 3)).alloc (.cells #[.int .u32 f, .int .u32 b, .int .u8 d, .int .u16 l] 26)).alloc (.cells #[.int .i64 0, .int .i64 0, .slice none 0 0] 49))) := (((((Below.refl _ _).alloc (Nat.le_refl _) _).alloc (by simp) _).alloc (by simp; omega) _).alloc (by simp; omega) _).alloc (by simp; omega) _
  have hz0 : (((((w.alloc (.cells #[.int .i64 c, .int .i64 r, .slice a xs.length cp] 49)).alloc (.cells #[.int .i64 x] 3)).alloc (.cells #[.int .i64 m] 3)).alloc (.cells #[.int .u32 f, .int .u32 b, .int .u8 d, .int .u16 l] 26)).alloc (.cells #[.int .i64 0, .int .i64 0, .slice none 0 0] 49)).heap.size = w.heap.size + 5 := by simp
  have G0 : Hid (Own (((((w.alloc (.cells #[.int .i64 c, .int .i64 r, .slice a xs.length cp] 49)).alloc (.cells #[.int .i64 x] 3)).alloc (.cells #[.int .i64 m] 3)).alloc (.cells #[.int .u32 f, .int .u32 b, .int .u8 d, .int .u16 l] 26)).alloc (.cells #[.int .i64 0, .int .i64 0, .slice none 0 0] 49)) w.heap.size 49 #[.int .i64 c, .int .i64 r, .slice a xs.length cp]) := ((((Own.new w 49 _).alloc _).alloc _).alloc _).alloc _
  have X0' : Own (((((w.alloc (.cells #[.int .i64 c, .int .i64 r, .slice a xs.length cp] 49)).alloc (.cells #[.int .i64 x] 3)).alloc (.cells #[.int .i64 m] 3)).alloc (.cells #[.int .u32 f, .int .u32 b, .int .u8 d, .int .u16 l] 26)).alloc (.cells #[.int .i64 0, .int .i64 0, .slice none 0 0] 49)) (w.heap.size + 1) 3 #[.int .i64 x] := by
    have h := (((Own.new (w.alloc (.cells #[.int .i64 c, .int .i64 r, .slice a xs.length cp] 49)) 3 #[.int .i64 x]).alloc (.cells #[.int .i64 m] 3)).alloc (.cells #[.int .u32 f, .int .u32 b, .int .u8 d, .int .u16 l] 26)).alloc (.cells #[.int .i64 0, .int .i64 0, .slice none 0 0] 49)
    simpa using h
  have R0' : Own (((((w.alloc (.cells #[.int .i64 c, .int .i64 r, .slice a xs.length cp] 49)).alloc (.cells #[.int .i64 x] 3)).alloc (.cells #[.int .i64 m] 3)).alloc (.cells #[.int .u32 f, .int .u32 b, .int .u8 d, .int .u16 l] 26)).alloc (.cells #[.int .i64 0, .int .i64 0, .slice none 0 0] 49)) (w.heap.size + 2) 3 #[.int .i64 m] := by
    have h := ((Own.new ((w.alloc (.cells #[.int .i64 c, .int .i64 r, .slice a xs.length cp] 49)).alloc (.cells #[.int .i64 x] 3)) 3 #[.int .i64 m]).alloc (.cells #[.int .u32 f, .int .u32 b, .int .u8 d, .int .u16 l] 26)).alloc (.cells #[.int .i64 0, .int .i64 0, .slice none 0 0] 49)
    simpa using h
  have P0' : Own (((((w.alloc (.cells #[.int .i64 c, .int .i64 r, .slice a xs.length cp] 49)).alloc (.cells #[.int .i64 x] 3)).alloc (.cells #[.int .i64 m] 3)).alloc (.cells #[.int .u32 f, .int .u32 b, .int .u8 d, .int .u16 l] 26)).alloc (.cells #[.int .i64 0, .int .i64 0, .slice none 0 0] 49)) (w.heap.size + 3) 26 #[.int .u32 f, .int .u32 b, .int .u8 d, .int .u16 l] := by
    have h := (Own.new (((w.alloc (.cells #[.int .i64 c, .int .i64 r, .slice a xs.length cp] 49)).alloc (.cells #[.int .i64 x] 3)).alloc (.cells #[.int .i64 m] 3)) 26 #[.int .u32 f, .int .u32 b, .int .u8 d, .int .u16 l]).alloc (.cells #[.int .i64 0, .int .i64 0, .slice none 0 0] 49)
    simpa using h
  have A0' : Own (((((w.alloc (.cells #[.int .i64 c, .int .i64 r, .slice a xs.length cp] 49)).alloc (.cells #[.int .i64 x] 3)).alloc (.cells #[.int .i64 m] 3)).alloc (.cells #[.int .u32 f, .int .u32 b, .int .u8 d, .int .u16 l] 26)).alloc (.cells #[.int .i64 0, .int .i64 0, .slice none 0 0] 49)) (w.heap.size + 4) 49 #[.int .i64 0, .int .i64 0, .slice none 0 0] := by
    have h := Own.new ((((w.alloc (.cells #[.int .i64 c, .int .i64 r, .slice a xs.length cp] 49)).alloc (.cells #[.int .i64 x] 3)).alloc (.cells #[.int .i64 m] 3)).alloc (.cells #[.int .u32 f, .int .u32 b, .int .u8 d, .int .u16 l] 26)) 49 #[.int .i64 0, .int .i64 0, .slice none 0 0]
    simpa using h
  have X0 := Lib.hid X0'
  have R0 := Lib.hid R0'
  have P0 := Lib.hid P0'
  have A0 := Lib.hid A0'
  clear X0' R0' P0' A0'
  have g0 := Own.cell G0.out 0
  have g1 := Own.cell G0.out 1
  have g2 := Own.cell G0.out 2
  simp only [List.getElem?_toArray, List.getElem?_cons_zero, List.getElem?_cons_succ] at g0 g1 g2
  have e0 := Own.cell P0.out 0
  have e1 := Own.cell P0.out 1
  have e2 := Own.cell P0.out 2
  have e3 := Own.cell P0.out 3
  simp only [List.getElem?_toArray, List.getElem?_cons_zero, List.getElem?_cons_succ] at e0 e1 e2 e3
  go_enter Tryd.func62, Tryd.ntmps62
  go_wp2_with fail
  generalize ((((w.alloc (.cells #[.int .i64 c, .int .i64 r, .slice a xs.length cp] 49)).alloc (.cells #[.int .i64 x] 3)).alloc (.cells #[.int .i64 m] 3)).alloc (.cells #[.int .u32 f, .int .u32 b, .int .u8 d, .int .u16 l] 26)).alloc (.cells #[.int .i64 0, .int .i64 0, .slice none 0 0] 49) = w0 at B0 hz0 G0 X0 R0 P0 A0 g0 g1 g2 e0 e1 e2 e3 ⊢
  clear g0 g1 g2 e0 e1 e2 e3
  refine (turned76_any c r y f b d l ⟨w.heap.size + 1, 0, none⟩ ⟨w.heap.size + 1 + 1, 0, none⟩ ⟨w.heap.size + 1 + 1 + 1, 0, none⟩ (fun l' => deleteP l' x m f b) a xs.length cp xs w0 (HL.out.below B0.out) hcp (HT.out.below B0.out)
    (fun a' n' c' l' w' hb hc => gdelete_cl x m f b d l _ _ _ a' n' c' l' w' ((hb.cell (p := ⟨w.heap.size + 1, 0, none⟩) (by show w.heap.size + 1 < w0.heap.size; omega)).trans (Own.cell X0.out 0)) ((hb.cell (p := ⟨w.heap.size + 1 + 1, 0, none⟩) (by show w.heap.size + 1 + 1 < w0.heap.size; omega)).trans (Own.cell R0.out 0)) ((ink_of P0.out).below hb (by omega)) hc ((HT.out.below B0.out).below hb)) (fun hp l' h => delete_len (Bool.and_eq_true_iff.2 ⟨row_yes h, hp⟩))).mono ?_
  obtain ⟨M, hM⟩ : ∃ M, turnP c r xs y f b (fun l' => deleteP l' x m f b) = M := ⟨_, rfl⟩
  obtain ⟨c2, hc2⟩ : ∃ c2, okI c r xs f b c = c2 := ⟨_, rfl⟩
  obtain ⟨r2, hr2⟩ : ∃ r2, okI c r xs f b r = r2 := ⟨_, rfl⟩
  rw [hM, hc2, hr2]
  have HM := Lib.hid hM
  have HC2 := Lib.hid hc2
  have HR2 := Lib.hid hr2
  clear hM hc2 hr2
  rintro e w1 ⟨v1, rfl, r1, b1⟩
  obtain ⟨va, vc, rfl, _⟩ := r1.cells
  have R1 := Lib.hid r1
  have B1 : Hid (Below w.heap.size w w1) := B0.out.trans (b1.mono B0.out.size)
  have A1 := Lib.hid (A0.out.below b1 A0.out.lt)
  clear r1 b1
  have hA := A1.out
  go_wp2_with (first
    | (refine gvstore_list rfl _ _ rfl (sa := va) (sc := vc) rfl rfl hA ?_; intro w2 o2 k2; have O2 := Lib.hid o2; have B2 : Hid (Below w.heap.size w w2) := below_grown B1.out k2 (by omega) B1.out.size; have R2 := Lib.hid (crow_other R1.out k2 (by omega)); clear o2 k2 hA)
    | go_in)
  have g0 := Own.cell O2.out 0
  have g1 := Own.cell O2.out 1
  have g2 := Own.cell O2.out 2
  simp only [List.getElem?_toArray, List.getElem?_cons_zero, List.getElem?_cons_succ] at g0 g1 g2
  (try simp only [Exit.inBlock, Exit.then])
  refine bodyPost_ret (v := .agg #[.int .i64 c2, .int .i64 r2, .slice va M.length vc]) (by simp [results, Tryd.results62, go_sem, g0, g1, g2]) rfl ?_
  rw [HM.out, HC2.out, HR2.out]
  exact ⟨_, rfl, R2.out.up B0.out.size, B2.out⟩
end Go.Proofs.YtlhcehealjdbdaaDoor
