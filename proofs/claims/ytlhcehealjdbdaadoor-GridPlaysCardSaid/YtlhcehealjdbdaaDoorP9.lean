/- Part 9 of the texts that GridPlays stands on, one behind the other. -/
import Derived.Test.YtlhcehealjdbdaaDoorP8
import Derived.Deep.DeepCutAuto
import Derived.Test.YtlhcehealjdbdaaDoorP6
/- What the program makes of a grid and a call that turns a row. -/
namespace Go.Proofs.YtlhcehealjdbdaaDoor
open Go.RowKit
set_option linter.unusedSimpArgs false
set_option linter.unusedVariables false
attribute [local go_sem] alloc_drewN setCell_drewN


/-- A call of law 09. -/
structure Op9 where
  k : Int
  x : Int
  y : Int
  n : Int
  r : Int
  f : Int
  b : Int
  a : Int
  l : Int
noncomputable def tfo (o : Op9) (l' : List Glyph) : List Glyph := if o.k = 0 then putP l' o.x o.r o.f o.b o.a o.l else if o.k = 1 then insertP l' o.x o.n o.f o.b else deleteP l' o.x o.n o.f o.b
theorem tfo_row {o : Op9} (hp : penMay o.f o.b = true) {l' : List Glyph} (h : RowOk l') : RowOk (tfo o l') ∧ (tfo o l').length = l'.length := by
  have hok : (rowMay l' && penMay o.f o.b) = true := Bool.and_eq_true_iff.2 ⟨row_yes h, hp⟩
  unfold tfo
  split
  · exact ⟨put_row hok, put_len hok⟩
  · split
    · exact ⟨insert_row hok, insert_len hok⟩
    · exact ⟨delete_row hok, delete_len hok⟩
set_option maxRecDepth 10000 in
set_option maxHeartbeats 4000000 in
theorem gdo_turn (c r : Int) (o : Op9) (hk : 0 ≤ o.k ∧ o.k ≤ 2) (a : Option Addr) (n cp : Nat) (xs : List Glyph) (w : World) (hl : Cells w a n xs) (hcp : n ≤ cp) (ht : Tabs w) :
    Calls Tryd.prog 42 #[.agg #[.int .i64 c, .int .i64 r, .slice a n cp], .agg #[.int .i64 o.k, .int .i64 o.x, .int .i64 o.y, .int .i64 o.n, .int .i32 o.r, .int .u32 o.f, .int .u32 o.b, .int .u8 o.a, .int .u16 o.l]] w (GG (okI c r xs o.f o.b c) (okI c r xs o.f o.b r) (turnP c r xs o.y o.f o.b (tfo o)) w) := by
  obtain rfl := hl.1
  have HL := Lib.hid hl
  have HT := Lib.hid ht
  clear hl ht
  obtain ⟨k, x, y, m, rr, f, b, d, l⟩ := o
  obtain ⟨hk0, hk2⟩ := hk
  have B0 : Hid (Below w.heap.size w (((w.alloc (.cells #[.int .i64 c, .int .i64 r, .slice a xs.length cp] 49)).alloc (.cells #[.int .i64 k, .int .i64 x, .int .i64 y, .int .i64 m, .int .i32 rr, .int .u32 f, .int .u32 b, .int .u8 d, .int .u16 l] 68)).alloc (.cells #[.int .i64 0, .int .i64 0, .slice none 0 0] 49))) := (((Below.refl _ _).alloc (Nat.le_refl _) _).alloc (by simp) _).alloc (by simp; omega) _
  have G0 : Hid (Own (((w.alloc (.cells #[.int .i64 c, .int .i64 r, .slice a xs.length cp] 49)).alloc (.cells #[.int .i64 k, .int .i64 x, .int .i64 y, .int .i64 m, .int .i32 rr, .int .u32 f, .int .u32 b, .int .u8 d, .int .u16 l] 68)).alloc (.cells #[.int .i64 0, .int .i64 0, .slice none 0 0] 49)) w.heap.size 49 #[.int .i64 c, .int .i64 r, .slice a xs.length cp]) := ((Own.new w 49 _).alloc _).alloc _
  have P0' : Own (((w.alloc (.cells #[.int .i64 c, .int .i64 r, .slice a xs.length cp] 49)).alloc (.cells #[.int .i64 k, .int .i64 x, .int .i64 y, .int .i64 m, .int .i32 rr, .int .u32 f, .int .u32 b, .int .u8 d, .int .u16 l] 68)).alloc (.cells #[.int .i64 0, .int .i64 0, .slice none 0 0] 49)) (w.heap.size + 1) 68 #[.int .i64 k, .int .i64 x, .int .i64 y, .int .i64 m, .int .i32 rr, .int .u32 f, .int .u32 b, .int .u8 d, .int .u16 l] := by
    have h := (Own.new (w.alloc (.cells #[.int .i64 c, .int .i64 r, .slice a xs.length cp] 49)) 68 #[.int .i64 k, .int .i64 x, .int .i64 y, .int .i64 m, .int .i32 rr, .int .u32 f, .int .u32 b, .int .u8 d, .int .u16 l]).alloc (.cells #[.int .i64 0, .int .i64 0, .slice none 0 0] 49)
    simpa using h
  have A0' : Own (((w.alloc (.cells #[.int .i64 c, .int .i64 r, .slice a xs.length cp] 49)).alloc (.cells #[.int .i64 k, .int .i64 x, .int .i64 y, .int .i64 m, .int .i32 rr, .int .u32 f, .int .u32 b, .int .u8 d, .int .u16 l] 68)).alloc (.cells #[.int .i64 0, .int .i64 0, .slice none 0 0] 49)) (w.heap.size + 2) 49 #[.int .i64 0, .int .i64 0, .slice none 0 0] := by
    have h := Own.new ((w.alloc (.cells #[.int .i64 c, .int .i64 r, .slice a xs.length cp] 49)).alloc (.cells #[.int .i64 k, .int .i64 x, .int .i64 y, .int .i64 m, .int .i32 rr, .int .u32 f, .int .u32 b, .int .u8 d, .int .u16 l] 68)) 49 #[.int .i64 0, .int .i64 0, .slice none 0 0]
    simpa using h
  have A0 := Lib.hid A0'
  clear A0'
  have g0 := Own.cell G0.out 0
  have g1 := Own.cell G0.out 1
  have g2 := Own.cell G0.out 2
  simp only [List.getElem?_toArray, List.getElem?_cons_zero, List.getElem?_cons_succ] at g0 g1 g2
  have e0 := Own.cell P0' 0
  have e1 := Own.cell P0' 1
  have e2 := Own.cell P0' 2
  have e3 := Own.cell P0' 3
  have e4 := Own.cell P0' 4
  have e5 := Own.cell P0' 5
  have e6 := Own.cell P0' 6
  have e7 := Own.cell P0' 7
  have e8 := Own.cell P0' 8
  simp only [List.getElem?_toArray, List.getElem?_cons_zero, List.getElem?_cons_succ] at e0 e1 e2 e3 e4 e5 e6 e7 e8
  clear P0'
  rcases (by simp only at hk0 hk2; omega : k = 0 ∨ k = 1 ∨ k = 2) with rfl | rfl | rfl
  · clear hk0 hk2
    go_enter Tryd.func42, Tryd.ntmps42
    go_wp2_with fail
    generalize ((w.alloc (.cells #[.int .i64 c, .int .i64 r, .slice a xs.length cp] 49)).alloc (.cells #[.int .i64 0, .int .i64 x, .int .i64 y, .int .i64 m, .int .i32 rr, .int .u32 f, .int .u32 b, .int .u8 d, .int .u16 l] 68)).alloc (.cells #[.int .i64 0, .int .i64 0, .slice none 0 0] 49) = w0 at B0 G0 A0 g0 g1 g2 e0 e1 e2 e3 e4 e5 e6 e7 e8 ⊢
    clear g0 g1 g2 e0 e1 e2 e3 e4 e5 e6 e7 e8
    have htf : (fun l' => putP l' x rr f b d l) = tfo ⟨0, x, y, m, rr, f, b, d, l⟩ := rfl
    have HCALL := Lib.hid (gput_any c r x y rr f b d l a xs.length cp xs w0 (HL.out.below B0.out) hcp (HT.out.below B0.out))
    rw [htf] at HCALL
    clear htf
    refine HCALL.out.mono ?_
    clear HCALL
    obtain ⟨c2, hc2⟩ : ∃ c2, okI c r xs f b c = c2 := ⟨_, rfl⟩
    obtain ⟨r2, hr2⟩ : ∃ r2, okI c r xs f b r = r2 := ⟨_, rfl⟩
    obtain ⟨M, hM⟩ : ∃ M, turnP c r xs y f b (tfo ⟨0, x, y, m, rr, f, b, d, l⟩) = M := ⟨_, rfl⟩
    rw [hc2, hr2, hM]
    have HC2 := Lib.hid hc2
    have HR2 := Lib.hid hr2
    have HM := Lib.hid hM
    clear hc2 hr2 hM
    rintro e w1 ⟨v1, rfl, r1, b1⟩
    obtain ⟨va, vc, rfl, _⟩ := r1.cells
    have R1 := Lib.hid r1
    have B1 : Hid (Below w.heap.size w w1) := B0.out.trans (b1.mono B0.out.size)
    have A1 := Lib.hid (A0.out.below b1 A0.out.lt)
    clear r1 b1
    have hA := A1.out
    go_wp2_with (first
      | (refine gvstore_list rfl _ _ rfl (sa := va) (sc := vc) rfl rfl hA ?_; intro w2 o2 k2; have O2 := Lib.hid o2; have B2 : Hid (Below w.heap.size w w2) := below_grown B1.out k2 (by omega) B1.out.size; have R2 : Hid (CRow w2 w0.heap.size (.slice va M.length vc) M) := crow_other R1.out k2 (by have := A0.out.lt; exact this); clear o2 k2 hA)
      | go_in)
    have g0 := Own.cell O2.out 0
    have g1 := Own.cell O2.out 1
    have g2 := Own.cell O2.out 2
    simp only [List.getElem?_toArray, List.getElem?_cons_zero, List.getElem?_cons_succ] at g0 g1 g2
    (try simp only [Exit.inBlock, Exit.then])
    refine bodyPost_ret (v := .agg #[.int .i64 c2, .int .i64 r2, .slice va M.length vc]) (by simp [results, Tryd.results42, go_sem, g0, g1, g2]) rfl ?_
    exact ⟨_, by rw [← HC2.out, ← HR2.out], by rw [← HM.out] at R2 ⊢; exact R2.out.up B0.out.size, B2.out⟩
  · clear hk0 hk2
    go_enter Tryd.func42, Tryd.ntmps42
    go_wp2_with fail
    generalize ((w.alloc (.cells #[.int .i64 c, .int .i64 r, .slice a xs.length cp] 49)).alloc (.cells #[.int .i64 1, .int .i64 x, .int .i64 y, .int .i64 m, .int .i32 rr, .int .u32 f, .int .u32 b, .int .u8 d, .int .u16 l] 68)).alloc (.cells #[.int .i64 0, .int .i64 0, .slice none 0 0] 49) = w0 at B0 G0 A0 g0 g1 g2 e0 e1 e2 e3 e4 e5 e6 e7 e8 ⊢
    clear g0 g1 g2 e0 e1 e2 e3 e4 e5 e6 e7 e8
    have htf : (fun l' => insertP l' x m f b) = tfo ⟨1, x, y, m, rr, f, b, d, l⟩ := rfl
    have HCALL := Lib.hid (ginsert_any c r x y m f b d l a xs.length cp xs w0 (HL.out.below B0.out) hcp (HT.out.below B0.out))
    rw [htf] at HCALL
    clear htf
    refine HCALL.out.mono ?_
    clear HCALL
    obtain ⟨c2, hc2⟩ : ∃ c2, okI c r xs f b c = c2 := ⟨_, rfl⟩
    obtain ⟨r2, hr2⟩ : ∃ r2, okI c r xs f b r = r2 := ⟨_, rfl⟩
    obtain ⟨M, hM⟩ : ∃ M, turnP c r xs y f b (tfo ⟨1, x, y, m, rr, f, b, d, l⟩) = M := ⟨_, rfl⟩
    rw [hc2, hr2, hM]
    have HC2 := Lib.hid hc2
    have HR2 := Lib.hid hr2
    have HM := Lib.hid hM
    clear hc2 hr2 hM
    rintro e w1 ⟨v1, rfl, r1, b1⟩
    obtain ⟨va, vc, rfl, _⟩ := r1.cells
    have R1 := Lib.hid r1
    have B1 : Hid (Below w.heap.size w w1) := B0.out.trans (b1.mono B0.out.size)
    have A1 := Lib.hid (A0.out.below b1 A0.out.lt)
    clear r1 b1
    have hA := A1.out
    go_wp2_with (first
      | (refine gvstore_list rfl _ _ rfl (sa := va) (sc := vc) rfl rfl hA ?_; intro w2 o2 k2; have O2 := Lib.hid o2; have B2 : Hid (Below w.heap.size w w2) := below_grown B1.out k2 (by omega) B1.out.size; have R2 : Hid (CRow w2 w0.heap.size (.slice va M.length vc) M) := crow_other R1.out k2 (by have := A0.out.lt; exact this); clear o2 k2 hA)
      | go_in)
    have g0 := Own.cell O2.out 0
    have g1 := Own.cell O2.out 1
    have g2 := Own.cell O2.out 2
    simp only [List.getElem?_toArray, List.getElem?_cons_zero, List.getElem?_cons_succ] at g0 g1 g2
    (try simp only [Exit.inBlock, Exit.then])
    refine bodyPost_ret (v := .agg #[.int .i64 c2, .int .i64 r2, .slice va M.length vc]) (by simp [results, Tryd.results42, go_sem, g0, g1, g2]) rfl ?_
    exact ⟨_, by rw [← HC2.out, ← HR2.out], by rw [← HM.out] at R2 ⊢; exact R2.out.up B0.out.size, B2.out⟩
  · clear hk0 hk2
    go_enter Tryd.func42, Tryd.ntmps42
    go_wp2_with fail
    generalize ((w.alloc (.cells #[.int .i64 c, .int .i64 r, .slice a xs.length cp] 49)).alloc (.cells #[.int .i64 2, .int .i64 x, .int .i64 y, .int .i64 m, .int .i32 rr, .int .u32 f, .int .u32 b, .int .u8 d, .int .u16 l] 68)).alloc (.cells #[.int .i64 0, .int .i64 0, .slice none 0 0] 49) = w0 at B0 G0 A0 g0 g1 g2 e0 e1 e2 e3 e4 e5 e6 e7 e8 ⊢
    clear g0 g1 g2 e0 e1 e2 e3 e4 e5 e6 e7 e8
    have htf : (fun l' => deleteP l' x m f b) = tfo ⟨2, x, y, m, rr, f, b, d, l⟩ := rfl
    have HCALL := Lib.hid (gdelete_any c r x y m f b d l a xs.length cp xs w0 (HL.out.below B0.out) hcp (HT.out.below B0.out))
    rw [htf] at HCALL
    clear htf
    refine HCALL.out.mono ?_
    clear HCALL
    obtain ⟨c2, hc2⟩ : ∃ c2, okI c r xs f b c = c2 := ⟨_, rfl⟩
    obtain ⟨r2, hr2⟩ : ∃ r2, okI c r xs f b r = r2 := ⟨_, rfl⟩
    obtain ⟨M, hM⟩ : ∃ M, turnP c r xs y f b (tfo ⟨2, x, y, m, rr, f, b, d, l⟩) = M := ⟨_, rfl⟩
    rw [hc2, hr2, hM]
    have HC2 := Lib.hid hc2
    have HR2 := Lib.hid hr2
    have HM := Lib.hid hM
    clear hc2 hr2 hM
    rintro e w1 ⟨v1, rfl, r1, b1⟩
    obtain ⟨va, vc, rfl, _⟩ := r1.cells
    have R1 := Lib.hid r1
    have B1 : Hid (Below w.heap.size w w1) := B0.out.trans (b1.mono B0.out.size)
    have A1 := Lib.hid (A0.out.below b1 A0.out.lt)
    clear r1 b1
    have hA := A1.out
    go_wp2_with (first
      | (refine gvstore_list rfl _ _ rfl (sa := va) (sc := vc) rfl rfl hA ?_; intro w2 o2 k2; have O2 := Lib.hid o2; have B2 : Hid (Below w.heap.size w w2) := below_grown B1.out k2 (by omega) B1.out.size; have R2 : Hid (CRow w2 w0.heap.size (.slice va M.length vc) M) := crow_other R1.out k2 (by have := A0.out.lt; exact this); clear o2 k2 hA)
      | go_in)
    have g0 := Own.cell O2.out 0
    have g1 := Own.cell O2.out 1
    have g2 := Own.cell O2.out 2
    simp only [List.getElem?_toArray, List.getElem?_cons_zero, List.getElem?_cons_succ] at g0 g1 g2
    (try simp only [Exit.inBlock, Exit.then])
    refine bodyPost_ret (v := .agg #[.int .i64 c2, .int .i64 r2, .slice va M.length vc]) (by simp [results, Tryd.results42, go_sem, g0, g1, g2]) rfl ?_
    exact ⟨_, by rw [← HC2.out, ← HR2.out], by rw [← HM.out] at R2 ⊢; exact R2.out.up B0.out.size, B2.out⟩
end Go.Proofs.YtlhcehealjdbdaaDoor
/- A grid in which rows stand further up. -/
namespace Go.Proofs.YtlhcehealjdbdaaDoor
open Go.RowKit
set_option linter.unusedSimpArgs false
set_option linter.unusedVariables false
attribute [local go_sem] alloc_drewN setCell_drewN


theorem grow_as (C R g off n cp F : Nat) (r y : Int) (hF : (F : Int) = y) (w : World) (h1 : 1 ≤ C) (h8 : C ≤ 80) (hy : F < R) (hr : R ≤ 24) (hn : n = C * R) (hcp : n ≤ cp) :
    Calls Tryd.prog 59 #[.agg #[.int .i64 C, .int .i64 r, .slice (some ⟨g, off, none⟩) n cp], .int .i64 y] w (RVal (.slice (some ⟨g, off + F * C * 6, none⟩) C C) w) := by
  subst hF
  exact grow_any C F R g off n cp r w h1 h8 hy hr hn hcp
/-- The row that comes to stand at z. -/
def newRow (C : Nat) (xs : List Glyph) (top bot n b : Int) (z : Nat) : List Glyph := if top ≤ (z : Int) + n ∧ (z : Int) + n ≤ bot then rowOf C ((z : Int) + n).toNat xs else List.replicate C (blank b)
/-- Behind k rows. -/
def scrF (C : Nat) (xs : List Glyph) (top bot n b : Int) : Nat → List Glyph
  | 0 => xs
  | k + 1 => setRow (scrF C xs top bot n b k) C (top.toNat + k) (newRow C xs top bot n b (top.toNat + k))
noncomputable def scrollP (c r : Int) (xs : List Glyph) (top bot n f b : Int) : List Glyph :=
  if (gridMay c r xs && penMay f b) = true then
    (if top < 0 ∨ r ≤ bot ∨ bot < top ∨ n = 0 then xs else scrF c.toNat xs top bot (max (-(bot - top + 1)) (min n (bot - top + 1))) b (bot - top + 1).toNat)
  else []
theorem newRow_len {C R : Nat} {xs : List Glyph} {top bot n b : Int} {z : Nat} (hl : xs.length = C * R) (h0 : 0 ≤ top) (hb : bot < R) : (newRow C xs top bot n b z).length = C := by
  unfold newRow
  split
  · exact row_len hl (r := R) (by omega)
  · exact List.length_replicate
theorem scrF_len {C R : Nat} {xs : List Glyph} {top bot n b : Int} (hl : xs.length = C * R) (h0 : 0 ≤ top) (hb : bot < R) : ∀ k : Nat, top.toNat + k ≤ R → (scrF C xs top bot n b k).length = C * R
  | 0, _ => hl
  | k + 1, h => setRow_len (scrF_len hl h0 hb k (by omega)) (by omega) (newRow_len hl h0 hb)
theorem fill_row {C R Y : Nat} {ys : List Glyph} {d : Glyph} (hl : ys.length = C * R) (hy : Y < R) : fillP ys (Y * C) d C = setRow ys C Y (List.replicate C d) := by
  have hm := mul_row (c := C) hy
  refine gext ?_ fun j hj => ?_
  · rw [fillP_len, setRow_len hl hy List.length_replicate]
    exact hl
  · show at_ (fillP ys (Y * C) d C) j = at_ (setRow ys C Y _) j
    rw [fill_at (by omega), setRow_at hl hy List.length_replicate]
    by_cases h1 : Y * C ≤ j ∧ j < Y * C + C
    · rw [if_pos h1, if_pos h1]
      unfold at_
      rw [List.getD_eq_getElem?_getD, List.getElem?_replicate, if_pos (by omega)]
      rfl
    · rw [if_neg h1, if_neg h1]
/-- The copy under way, its record, what came in, the pen, the answer's place. -/
def SRel (w : World) (base g hb vc C R : Nat) (sa : Option Addr) (sn cp : Nat) (f b d l : Int) (n : Nat) (ys : List Glyph) (wr : World) : Prop :=
  CRow wr base (.slice (some ⟨g, 0, none⟩) n vc) ys ∧ Own wr hb 49 #[.int .i64 C, .int .i64 R, .slice (some ⟨g, 0, none⟩) n vc] ∧ Own wr w.heap.size 49 #[.int .i64 C, .int .i64 R, .slice sa sn cp] ∧ Own wr (w.heap.size + 1) 26 #[.int .u32 f, .int .u32 b, .int .u8 d, .int .u16 l] ∧ Own wr (w.heap.size + 2) 49 #[.int .i64 0, .int .i64 0, .slice none 0 0] ∧ Below w.heap.size w wr
section
variable {w w1 w2 : World} {base g hb vc C R : Nat} {sa : Option Addr} {sn cp : Nat} {f b d l : Int} {n : Nat} {ys zs : List Glyph}
theorem SRel.below (h : SRel w base g hb vc C R sa sn cp f b d l n ys w1) (k : Below w1.heap.size w1 w2) : SRel w base g hb vc C R sa sn cp f b d l n ys w2 :=
  ⟨h.1.below k, h.2.1.below k h.2.1.lt, h.2.2.1.below k h.2.2.1.lt, h.2.2.2.1.below k h.2.2.2.1.lt, h.2.2.2.2.1.below k h.2.2.2.2.1.lt, h.2.2.2.2.2.trans (k.mono h.2.2.2.2.2.size)⟩
theorem SRel.put (h : SRel w base g hb vc C R sa sn cp f b d l n ys w1) (r : CRow w2 base (.slice (some ⟨g, 0, none⟩) n vc) zs) (k : w1.grownBy w2 (some g)) (h1 : w.heap.size + 3 ≤ g) (h2 : hb ≠ g) : SRel w base g hb vc C R sa sn cp f b d l n zs w2 :=
  ⟨r, h.2.1.grown k (fun e => by injection e with e; omega), h.2.2.1.grown k (fun e => by injection e with e; omega), h.2.2.2.1.grown k (fun e => by injection e with e; omega), h.2.2.2.2.1.grown k (fun e => by injection e with e; omega), below_grown h.2.2.2.2.2 k (by omega) h.2.2.2.2.2.size⟩
end
theorem gpart_list {w : World} {o : Oper} {a : Act} {Q : Exit → Act → World → Prop} {ops : Array Oper} {rest : List Oper} (hgd : o.guard = none) (p q : Operand) (ho : o.op = .call { callee := .builtin .copy, args := #[p, q], argTypes := #[29, 29] }) {base g n c : Nat} {xs qs : List Glyph} (ds m : Nat) {dp sp : Option Addr} {dl sl dc sc : Nat}
    (hd : a.eval p = .slice dp dl dc) (hs : a.eval q = .slice sp sl sc) (hr : CRow w base (.slice (some ⟨g, 0, none⟩) n c) xs) (hq : Cells w sp sl qs) (hm : m = Nat.min sl dl) (hdl : ds + m ≤ n)
    (hdp : 0 < m → dp = some ⟨g, ds * 6, none⟩)
    (h : ∀ w', CRow w' base (.slice (some ⟨g, 0, none⟩) n c) (xs.take ds ++ qs.take m ++ xs.drop (ds + m)) → w.grownBy w' (some g) → wpList Tryd.prog ops Q rest (a.put o.dst (goInt m)) w') : wpList Tryd.prog ops Q (o :: rest) a w :=
  wpList_plain hgd fun K hK => gpart_op p q ho ds m hd hs hr hq hm hdl hdp fun w' h1 h2 => hK _ _ (h w' h1 h2)
set_option maxRecDepth 10000 in
set_option maxHeartbeats 4000000 in
theorem gscroll_any (c r top bot m f b d l : Int) (a : Option Addr) (n cp : Nat) (xs : List Glyph) (w : World) (hl : Cells w a n xs) (hcp : n ≤ cp) (ht : Tabs w) :
    Calls Tryd.prog 38 #[.agg #[.int .i64 c, .int .i64 r, .slice a n cp], .int .i64 top, .int .i64 bot, .int .i64 m, .agg #[.int .u32 f, .int .u32 b, .int .u8 d, .int .u16 l]] w (GG (okI c r xs f b c) (okI c r xs f b r) (scrollP c r xs top bot m f b) w) := by
  obtain rfl := hl.1
  have HL := Lib.hid hl
  have HT := Lib.hid ht
  clear hl ht
  obtain ⟨ok, hok⟩ : ∃ ok, (gridMay c r xs && penMay f b) = ok := ⟨_, rfl⟩
  have HGO := Lib.hid (fun w0 hB hT => gown_any c r f b d l a xs.length cp xs w0 (HL.out.below (w' := w0) hB) hcp hT)
  rw [hok] at HGO
  have B0 : Hid (Below w.heap.size w (((w.alloc (.cells #[.int .i64 c, .int .i64 r, .slice a xs.length cp] 49)).alloc (.cells #[.int .u32 f, .int .u32 b, .int .u8 d, .int .u16 l] 26)).alloc (.cells #[.int .i64 0, .int .i64 0, .slice none 0 0] 49))) := (((Below.refl _ _).alloc (Nat.le_refl _) _).alloc (by simp) _).alloc (by simp; omega) _
  have G0 : Hid (Own (((w.alloc (.cells #[.int .i64 c, .int .i64 r, .slice a xs.length cp] 49)).alloc (.cells #[.int .u32 f, .int .u32 b, .int .u8 d, .int .u16 l] 26)).alloc (.cells #[.int .i64 0, .int .i64 0, .slice none 0 0] 49)) w.heap.size 49 #[.int .i64 c, .int .i64 r, .slice a xs.length cp]) := ((Own.new w 49 _).alloc _).alloc _
  have P0' : Own (((w.alloc (.cells #[.int .i64 c, .int .i64 r, .slice a xs.length cp] 49)).alloc (.cells #[.int .u32 f, .int .u32 b, .int .u8 d, .int .u16 l] 26)).alloc (.cells #[.int .i64 0, .int .i64 0, .slice none 0 0] 49)) (w.heap.size + 1) 26 #[.int .u32 f, .int .u32 b, .int .u8 d, .int .u16 l] := by
    have h := (Own.new (w.alloc (.cells #[.int .i64 c, .int .i64 r, .slice a xs.length cp] 49)) 26 #[.int .u32 f, .int .u32 b, .int .u8 d, .int .u16 l]).alloc (.cells #[.int .i64 0, .int .i64 0, .slice none 0 0] 49)
    simpa using h
  have A0' : Own (((w.alloc (.cells #[.int .i64 c, .int .i64 r, .slice a xs.length cp] 49)).alloc (.cells #[.int .u32 f, .int .u32 b, .int .u8 d, .int .u16 l] 26)).alloc (.cells #[.int .i64 0, .int .i64 0, .slice none 0 0] 49)) (w.heap.size + 2) 49 #[.int .i64 0, .int .i64 0, .slice none 0 0] := by
    have h := Own.new ((w.alloc (.cells #[.int .i64 c, .int .i64 r, .slice a xs.length cp] 49)).alloc (.cells #[.int .u32 f, .int .u32 b, .int .u8 d, .int .u16 l] 26)) 49 #[.int .i64 0, .int .i64 0, .slice none 0 0]
    simpa using h
  have P0 := Lib.hid P0'
  have A0 := Lib.hid A0'
  have hz0 : w.heap.size + 3 ≤ (((w.alloc (.cells #[.int .i64 c, .int .i64 r, .slice a xs.length cp] 49)).alloc (.cells #[.int .u32 f, .int .u32 b, .int .u8 d, .int .u16 l] 26)).alloc (.cells #[.int .i64 0, .int .i64 0, .slice none 0 0] 49)).heap.size := by simp
  clear P0' A0'
  have g0 := Own.cell G0.out 0
  have g1 := Own.cell G0.out 1
  have g2 := Own.cell G0.out 2
  simp only [List.getElem?_toArray, List.getElem?_cons_zero, List.getElem?_cons_succ] at g0 g1 g2
  have e0 := Own.cell P0.out 0
  have e1 := Own.cell P0.out 1
  have e2 := Own.cell P0.out 2
  have e3 := Own.cell P0.out 3
  simp only [List.getElem?_toArray, List.getElem?_cons_zero, List.getElem?_cons_succ] at e0 e1 e2 e3
  go_enter Tryd.func38, Tryd.ntmps38
  go_wp2_with fail
  refine (HGO.out _ B0.out (HT.out.below B0.out)).mono ?_
  clear HGO
  generalize ((w.alloc (.cells #[.int .i64 c, .int .i64 r, .slice a xs.length cp] 49)).alloc (.cells #[.int .u32 f, .int .u32 b, .int .u8 d, .int .u16 l] 26)).alloc (.cells #[.int .i64 0, .int .i64 0, .slice none 0 0] 49) = w0 at B0 G0 P0 A0 hz0 g0 g1 g2 e0 e1 e2 e3 ⊢
  clear g0 g1 g2 e0 e1 e2 e3
  cases ok with
  | false =>
    have HF : Hid (okI c r xs f b c = 0 ∧ okI c r xs f b r = 0 ∧ scrollP c r xs top bot m f b = []) := by unfold okI scrollP; rw [hok]; exact ⟨rfl, rfl, rfl⟩
    clear hok
    rintro e w1 ⟨rfl, b1⟩
    have B1 : Hid (Below w.heap.size w w1) := B0.out.trans (b1.mono B0.out.size)
    have G1 := Lib.hid (G0.out.below b1 (by omega))
    have P1 := Lib.hid (P0.out.below b1 (by omega))
    have A1 := Lib.hid (A0.out.below b1 (by omega))
    have hz1 : w.heap.size + 3 ≤ w1.heap.size := Nat.le_trans hz0 b1.size
    clear b1
    go_upto_region 2 with fail
    have H2 : Hid (Own (w1.alloc (.cells #[.int .i64 0, .int .i64 0, .slice none 0 0] 49)) w1.heap.size 49 #[.int .i64 0, .int .i64 0, .slice none 0 0]) := Own.new w1 49 _
    have B2 : Hid (Below w.heap.size w (w1.alloc (.cells #[.int .i64 0, .int .i64 0, .slice none 0 0] 49))) := B1.out.alloc B1.out.size _
    have A2 := Lib.hid (A1.out.alloc (.cells #[.int .i64 0, .int .i64 0, .slice none 0 0] 49))
    generalize w1.alloc (.cells #[.int .i64 0, .int .i64 0, .slice none 0 0] 49) = w2 at H2 B2 A2 ⊢
    have g0 := Own.cell H2.out 0
    have g1 := Own.cell H2.out 1
    have g2 := Own.cell H2.out 2
    simp only [List.getElem?_toArray, List.getElem?_cons_zero, List.getElem?_cons_succ] at g0 g1 g2
    have hA := A2.out
    go_wp2_with (first
      | (refine gvstore_list rfl _ _ rfl (c := 0) (r := 0) (sa := none) (sn := 0) (sc := 0) rfl rfl hA ?_; intro w3 o3 k3; have O3 := Lib.hid o3; have B3 : Hid (Below w.heap.size w w3) := below_grown B2.out k3 (by omega) B2.out.size; clear o3 k3 hA)
      | go_in)
    clear g0 g1 g2
    have g0 := Own.cell O3.out 0
    have g1 := Own.cell O3.out 1
    have g2 := Own.cell O3.out 2
    simp only [List.getElem?_toArray, List.getElem?_cons_zero, List.getElem?_cons_succ] at g0 g1 g2
    (try simp only [Exit.inBlock, Exit.then])
    refine bodyPost_ret (v := .agg #[.int .i64 0, .int .i64 0, .slice none 0 0]) (by simp [results, Tryd.results38, go_sem, g0, g1, g2]) rfl ?_
    obtain ⟨h1, h2, h3⟩ := HF.out
    rw [h1, h2, h3]
    exact ⟨_, rfl, CRow.nil _ _, B3.out⟩
  | true =>
    rintro e w1 ⟨v1, rfl, r1, b1⟩
    have B1 : Hid (Below w.heap.size w w1) := B0.out.trans (b1.mono B0.out.size)
    have G1 := Lib.hid (G0.out.below b1 (by omega))
    have P1 := Lib.hid (P0.out.below b1 (by omega))
    have A1 := Lib.hid (A0.out.below b1 (by omega))
    have hz1 : w.heap.size + 3 ≤ w1.heap.size := Nat.le_trans hz0 b1.size
    obtain ⟨va, vc, rfl, _⟩ := r1.cells
    obtain ⟨C, R, rfl, rfl, hgo⟩ := gmay_iff.1 (Bool.and_eq_true_iff.1 hok).1
    obtain ⟨o1, o2, o3, o4, o5, _⟩ := hgo
    have hpos : 0 < C * R := Nat.mul_pos (by omega) (by omega)
    obtain ⟨g, rfl⟩ := crow_addr r1 (by omega)
    obtain ⟨ga, goff, rfl, hga, _⟩ := HL.out.2.2 (by omega)
    have hgb : w0.heap.size ≤ g := (crow_at r1 (k := 0) (by omega)).2.1
    have hglt : g < w1.heap.size := (World.ownsRow.lt r1 g rfl).2
    have hvc := crow_cap r1 (by omega)
    have R1 : Hid (CRow w1 w0.heap.size (.slice (some ⟨g, 0, none⟩) xs.length vc) xs) := r1
    have HO5 := Lib.hid o5
    have hbnd := mul_bound o2 o4
    rw [← o5] at hbnd
    clear r1 b1 o5
    have HOI : Hid (okI C R xs f b C = C ∧ okI C R xs f b R = R) := by unfold okI; rw [hok]; exact ⟨rfl, rfl⟩
    have HSP : Hid (scrollP C R xs top bot m f b = if top < 0 ∨ (R : Int) ≤ bot ∨ bot < top ∨ m = 0 then xs else scrF C xs top bot (max (-(bot - top + 1)) (min m (bot - top + 1))) b (bot - top + 1).toNat) := by unfold scrollP; rw [hok, if_pos rfl, Int.toNat_natCast]; rfl
    clear hok
    go_upto_region 2 with fail
    have SR0 : Hid (SRel w w0.heap.size g w1.heap.size vc C R (some ⟨ga, goff, none⟩) xs.length cp f b d l xs.length xs (w1.alloc (.cells #[.int .i64 C, .int .i64 R, .slice (some ⟨g, 0, none⟩) xs.length vc] 49))) := ⟨R1.out.alloc _, Own.new w1 49 _, G1.out.alloc _, P1.out.alloc _, A1.out.alloc _, B1.out.alloc B1.out.size _⟩
    clear R1 G1 P1 A1 B1
    generalize w1.alloc (.cells #[.int .i64 C, .int .i64 R, .slice (some ⟨g, 0, none⟩) xs.length vc] 49) = w2 at SR0 ⊢
    have hhb : w1.heap.size ≠ g := by omega
    generalize w1.heap.size = hb at SR0 hhb hglt hz1 ⊢
    have g0 := Own.cell SR0.out.2.1 0
    have g1 := Own.cell SR0.out.2.1 1
    have g2 := Own.cell SR0.out.2.1 2
    simp only [List.getElem?_toArray, List.getElem?_cons_zero, List.getElem?_cons_succ] at g0 g1 g2
    obtain ⟨bad, hbad⟩ : ∃ bad, decide (top < 0 ∨ (R : Int) ≤ bot ∨ bot < top ∨ m = 0) = bad := ⟨_, rfl⟩
    have HBAD := Lib.hid hbad
    clear hbad
    go_cut [44] (fun v wc => v = .bool bad ∧ w2 = wc)
    case first =>
      cases t1 : decide (top < 0) with
      | true =>
        go_wp2_with fail
        go_meet
        exact ⟨congrArg Value.bool ((decide_eq_true (.inl (of_decide_eq_true t1))).symm.trans HBAD.out), rfl⟩
      | false =>
      cases t2 : decide ((R : Int) ≤ bot) with
      | true =>
        go_wp2_with fail
        go_meet
        exact ⟨congrArg Value.bool ((decide_eq_true (.inr (.inl (of_decide_eq_true t2)))).symm.trans HBAD.out), rfl⟩
      | false =>
      cases t3 : decide (bot < top) with
      | true =>
        go_wp2_with fail
        go_meet
        exact ⟨congrArg Value.bool ((decide_eq_true (.inr (.inr (.inl (of_decide_eq_true t3))))).symm.trans HBAD.out), rfl⟩
      | false =>
      cases t4 : (m == 0) with
      | true =>
        go_wp2_with fail
        go_meet
        exact ⟨congrArg Value.bool ((decide_eq_true (.inr (.inr (.inr (eq_of_beq t4))))).symm.trans HBAD.out), rfl⟩
      | false =>
        go_wp2_with fail
        go_meet
        exact ⟨congrArg Value.bool ((decide_eq_false (fun k => by
          have := of_decide_eq_false t1
          have := of_decide_eq_false t2
          have := of_decide_eq_false t3
          have := beq_eq_false_iff_ne.1 t4
          omega)).symm.trans HBAD.out), rfl⟩
    case rest =>
      obtain ⟨rfl, rfl⟩ := hcut
      cases bad with
      | true =>
        have HF : Hid (scrollP C R xs top bot m f b = xs) := by rw [HSP.out, if_pos (of_decide_eq_true HBAD.out)]; rfl
        have A4 := Lib.hid SR0.out.2.2.2.2.1
        have B4 := Lib.hid SR0.out.2.2.2.2.2
        have R4 := Lib.hid SR0.out.1
        have hA := A4.out
        go_wp2_with (first
          | (refine gvstore_list rfl _ _ rfl (c := C) (r := R) (sa := some ⟨g, 0, none⟩) (sn := xs.length) (sc := vc) rfl rfl hA ?_; intro w9 o9 k9; have O9 := Lib.hid o9; have B9 : Hid (Below w.heap.size w w9) := below_grown B4.out k9 (by omega) B4.out.size; have R9 := Lib.hid (crow_other R4.out k9 (by omega)); clear o9 k9 hA)
          | go_in)
        clear g0 g1 g2
        have g0 := Own.cell O9.out 0
        have g1 := Own.cell O9.out 1
        have g2 := Own.cell O9.out 2
        simp only [List.getElem?_toArray, List.getElem?_cons_zero, List.getElem?_cons_succ] at g0 g1 g2
        (try simp only [Exit.inBlock, Exit.then])
        refine bodyPost_ret (v := .agg #[.int .i64 C, .int .i64 R, .slice (some ⟨g, 0, none⟩) xs.length vc]) (by simp [results, Tryd.results38, go_sem, g0, g1, g2]) rfl ?_
        rw [HOI.out.1, HOI.out.2, HF.out]
        exact ⟨_, rfl, R9.out.up B0.out.size, B9.out⟩
      | false =>
        have hb4 := of_decide_eq_false HBAD.out
        obtain ⟨T, rfl⟩ : ∃ T : Nat, top = T := ⟨top.toNat, by omega⟩
        obtain ⟨U, rfl⟩ : ∃ U : Nat, bot = U := ⟨bot.toNat, by omega⟩
        have hUR : U < R := by omega
        have hTU : T ≤ U := by omega
        obtain ⟨H, hH⟩ : ∃ H : Nat, (U : Int) - T + 1 = H := ⟨U - T + 1, by omega⟩
        have HH := Lib.hid hH
        obtain ⟨N, hN⟩ : ∃ N : Int, max (-((H : Nat) : Int)) (min m (H : Int)) = N := ⟨_, rfl⟩
        have HN := Lib.hid hN
        have hNb : -24 ≤ N ∧ N ≤ 24 := by omega
        have HF : Hid (scrollP C R xs T U m f b = scrF C xs T U N b H) := by rw [HSP.out, if_neg hb4, HH.out, HN.out, Int.toNat_natCast]; rfl
        have hNb1 := hNb.1
        have hNb2 := hNb.2
        clear hb4 hN hH hNb HSP HBAD
        go_upto_region 4 with fail
        clear g0 g1 g2
        go_cut [13] (fun v wc => v = .int .i64 H ∧ w2 = wc)
        case first =>
          have hH := HH.out
          go_wp2_with fail
          go_meet
          exact ⟨congrArg (Value.int .i64) (by omega), rfl⟩
        case rest =>
          obtain ⟨rfl, rfl⟩ := hcut
          go_upto_region 5 with fail
          go_cut [3] (fun v wc => v = .int .i64 N ∧ w2 = wc)
          case first =>
            have hN := HN.out
            have hHb : (H : Int) ≤ 24 := by have := HH.out; omega
            have hHb0 : (0 : Int) ≤ (H : Int) := by omega
            go_wp2_with fail
            all_goals (go_meet; exact ⟨congrArg (Value.int .i64) (by omega), rfl⟩)
          case rest =>
            obtain ⟨rfl, rfl⟩ := hcut
            obtain ⟨S, hS⟩ : ∃ S, S = scrF C xs T U N b := ⟨_, rfl⟩
            have HS := Lib.hid hS
            have HS0 : Hid (S 0 = xs) := by rw [hS]; rfl
            have HSN : Hid (∀ k, S (k + 1) = setRow (S k) C (T + k) (newRow C xs T U N b (T + k))) := fun k => by rw [hS]; rfl
            have HSL : Hid (∀ k, T + k ≤ R → (S k).length = C * R) := fun k hk => by rw [hS]; exact scrF_len HO5.out (by omega) (by omega) k (by rw [Int.toNat_natCast]; exact hk)
            clear hS
            have HL0 : Hid (SRel w w0.heap.size g hb vc C R (some ⟨ga, goff, none⟩) xs.length cp f b d l xs.length (S 0) w2) := by rw [HS0.out]; exact SR0.out
            clear SR0 HS0
            go_wp2_with fail
            go_loopw [14] (fun v wr => ∃ k Y : Nat, T + k = Y ∧ Y ≤ U + 1 ∧ v = .int .i64 Y ∧ Hid (SRel w w0.heap.size g hb vc C R (some ⟨ga, goff, none⟩) xs.length cp f b d l xs.length (S k) wr)) (fun v _ => U + 1 - (intOf v).toNat)
            case atStart => exact ⟨0, T, by omega, by omega, rfl, HL0⟩
            case round =>
              obtain ⟨k, Y, hkY, hYU, rfl, HR⟩ := hrel
              clear HL0
              by_cases hY : Y ≤ U
              · have hdY : decide (Y ≤ U) = true := decide_eq_true hY
                have hYR : Y < R := by omega
                have HKY := Lib.hid hkY
                have hsl := HSL.out k (by omega)
                have hmr := mul_row (c := C) hYR
                have HGC := Lib.hid (fun wz => grow_any C Y R g 0 xs.length vc R wz o1 o2 hYR o4 HO5.out hvc)
                have HQ : Hid (Y ≤ U) := hY
                obtain ⟨Z, hZ⟩ : ∃ Z, Y * C = Z := ⟨_, rfl⟩
                have HZ := Lib.hid hZ
                rw [hZ] at HGC hmr
                have HSLK := Lib.hid hsl
                have hZn : Z + C ≤ xs.length := by rw [HO5.out]; exact hmr
                clear hkY hsl hmr hZ
                have g0 := Own.cell HR.out.2.1 0
                have g1 := Own.cell HR.out.2.1 1
                have g2 := Own.cell HR.out.2.1 2
                simp only [List.getElem?_toArray, List.getElem?_cons_zero, List.getElem?_cons_succ] at g0 g1 g2
                go_wp2_with fail
                refine (HGC.out _).mono ?_
                rintro e w4 ⟨rfl, b4⟩
                have S4 : Hid (SRel w w0.heap.size g hb vc C R (some ⟨ga, goff, none⟩) xs.length cp f b d l xs.length (S k) w4) := HR.out.below b4
                clear b4 g0 g1 g2 HR
                rw [Nat.zero_add]
                go_upto_region 11 with fail
                by_cases hin : (T : Int) ≤ (Y : Int) + N ∧ (Y : Int) + N ≤ (U : Int)
                · obtain ⟨F, hF⟩ : ∃ F : Nat, (F : Int) = (Y : Int) + N := ⟨((Y : Int) + N).toNat, by omega⟩
                  have HFF := Lib.hid hF
                  have hFR : F < R := by omega
                  have d1 : decide ((T : Int) ≤ (Y : Int) + N) = true := decide_eq_true hin.1
                  have d2 : decide ((Y : Int) + N ≤ (U : Int)) = true := decide_eq_true hin.2
                  have HNX : Hid (S (k + 1) = setRow (S k) C Y (rowOf C F xs)) := by
                    rw [HSN.out, HKY.out]
                    unfold newRow
                    rw [if_pos hin, ← hF, Int.toNat_natCast]
                    rfl
                  have HGD := Lib.hid (fun wz => grow_as C R ga goff xs.length cp F R _ hF wz o1 o2 hFR o4 HO5.out hcp)
                  have hmf := mul_row (c := C) hFR
                  have HPART : Hid (Cells w4 (some ⟨ga, goff + F * C * 6, none⟩) C (rowOf C F xs)) := cells_part (HL.out.below S4.out.2.2.2.2.2) (s := F * C) (m := C) (by rw [HO5.out]; exact hmf)
                  have HRL : Hid ((rowOf C F xs).length = C) := row_len HO5.out hFR
                  clear hF hin hmf
                  have g0 := Own.cell S4.out.2.2.1 0
                  have g1 := Own.cell S4.out.2.2.1 1
                  have g2 := Own.cell S4.out.2.2.1 2
                  simp only [List.getElem?_toArray, List.getElem?_cons_zero, List.getElem?_cons_succ] at g0 g1 g2
                  go_wp2_with fail
                  refine (HGD.out _).mono ?_
                  rintro e w5 ⟨rfl, b5⟩
                  have S5 : Hid (SRel w w0.heap.size g hb vc C R (some ⟨ga, goff, none⟩) xs.length cp f b d l xs.length (S k) w5) := S4.out.below b5
                  have HP5 := Lib.hid (HPART.out.below b5)
                  clear b5 g0 g1 g2 S4
                  go_wp2_with (first
                    | (refine gpart_list rfl _ _ rfl Z C rfl rfl S5.out.1 HP5.out (Nat.min_self C).symm (by have := S5.out.1; exact hZn) (fun _ => rfl) ?_; intro w6 r6 k6; have S6 : Hid (SRel w w0.heap.size g hb vc C R (some ⟨ga, goff, none⟩) xs.length cp f b d l xs.length (S (k + 1)) w6) := S5.out.put (by rw [HNX.out]; unfold setRow; rw [List.take_of_length_le (l := rowOf C F xs) (by rw [HRL.out]; exact Nat.le_refl _)] at r6; rw [HZ.out]; exact r6) k6 (by omega) hhb; clear r6 k6)
                    | go_in)
                  go_roundw
                  case rel => exact ⟨k + 1, Y + 1, by have := HKY.out; omega, by have := HQ.out; omega, by go_num, S6⟩
                  case measure => have := HQ.out; simp [intOf]; omega
                · have HNX : Hid (S (k + 1) = setRow (S k) C Y (List.replicate C (blank b))) := by
                    rw [HSN.out, HKY.out]
                    unfold newRow
                    rw [if_neg hin]
                    rfl
                  have HFILL : Hid (fillP (S k) Z (blank b) C = S (k + 1)) := by
                    rw [HNX.out, ← HZ.out]
                    exact fill_row HSLK.out hYR
                  have S4' : Hid (SRel w w0.heap.size g hb vc C R (some ⟨ga, goff, none⟩) xs.length cp f b d l xs.length (fillP (S k) Z (blank b) 0) w4) := S4.out
                  clear S4
                  go_cut [75] (fun v wc => v = .bool false ∧ w4 = wc)
                  case first =>
                    cases d1 : decide ((T : Int) ≤ (Y : Int) + N) with
                    | false =>
                      go_wp2_with fail
                      go_meet
                      exact ⟨rfl, rfl⟩
                    | true =>
                      have d2 : decide ((Y : Int) + N ≤ (U : Int)) = false := decide_eq_false (fun q => hin ⟨of_decide_eq_true d1, q⟩)
                      go_wp2_with fail
                      go_meet
                      exact ⟨rfl, rfl⟩
                  case rest =>
                    obtain ⟨rfl, rfl⟩ := hcut
                    clear hin
                    go_wp2_with fail
                    go_loopw [83] (fun v wr => ∃ x : Nat, x ≤ C ∧ v = .int .i64 x ∧ Hid (SRel w w0.heap.size g hb vc C R (some ⟨ga, goff, none⟩) xs.length cp f b d l xs.length (fillP (S k) Z (blank b) x) wr)) (fun v _ => C - (intOf v).toNat)
                    case atStart => exact ⟨0, by omega, rfl, S4'⟩
                    case round =>
                      obtain ⟨x, hx1, rfl, HX⟩ := hrel
                      clear S4'
                      by_cases hx : x < C
                      · have hi0 : (0 : Int) ≤ (x : Int) := by omega
                        have hi1 : (x : Int) < (C : Int) := by omega
                        have hdx : decide (x < C) = true := decide_eq_true hx
                        have HXC : Hid (x < C) := hx
                        have hzx : Z + x < xs.length := by omega
                        have e0 := Own.cell HX.out.2.2.2.1 0
                        have e1 := Own.cell HX.out.2.2.2.1 1
                        have e2 := Own.cell HX.out.2.2.2.1 2
                        have e3 := Own.cell HX.out.2.2.2.1 3
                        simp only [List.getElem?_toArray, List.getElem?_cons_zero, List.getElem?_cons_succ] at e0 e1 e2 e3
                        go_wp2_with fail
                        refine (blank_any f b d l _).mono ?_
                        rintro e w5 ⟨rfl, b5⟩
                        have S5 : Hid (SRel w w0.heap.size g hb vc C R (some ⟨ga, goff, none⟩) xs.length cp f b d l xs.length (fillP (S k) Z (blank b) x) w5) := HX.out.below b5
                        clear b5 e0 e1 e2 e3 HX
                        go_wp2_with (first
                          | (refine gstore_list rfl _ _ rfl (d := blank b) (k := Z + x) (by show Value.pointer (some ⟨g, Z * 6 + x * 6, none⟩) = _; rw [← Nat.add_mul]) rfl S5.out.1 hzx ?_; intro w6 r6 k6; have S6 : Hid (SRel w w0.heap.size g hb vc C R (some ⟨ga, goff, none⟩) xs.length cp f b d l xs.length (fillP (S k) Z (blank b) (x + 1)) w6) := S5.out.put r6 k6 (by omega) hhb; clear r6 k6)
                          | go_in)
                        go_roundw
                        case rel => exact ⟨x + 1, HXC.out, by go_num, S6⟩
                        case measure => have := HXC.out; simp [intOf]; omega
                      · obtain rfl : x = C := by omega
                        have hdx : decide (x < x) = false := decide_eq_false hx
                        have S6 : Hid (SRel w w0.heap.size g hb vc x R (some ⟨ga, goff, none⟩) xs.length cp f b d l xs.length (S (k + 1)) wr) := by rw [← HFILL.out]; exact HX.out
                        clear hx HX
                        go_wp2_with fail
                        go_roundw
                        case rel => exact ⟨k + 1, Y + 1, by have := HKY.out; omega, by have := HQ.out; omega, by go_num, S6⟩
                        case measure => have := HQ.out; simp [intOf]; omega
              · have hdY : decide (Y ≤ U) = false := decide_eq_false hY
                obtain rfl : k = H := by have := HH.out; omega
                have A4 := Lib.hid HR.out.2.2.2.2.1
                have B4 := Lib.hid HR.out.2.2.2.2.2
                have R4 := Lib.hid HR.out.1
                have g0 := Own.cell HR.out.2.1 0
                have g1 := Own.cell HR.out.2.1 1
                have g2 := Own.cell HR.out.2.1 2
                simp only [List.getElem?_toArray, List.getElem?_cons_zero, List.getElem?_cons_succ] at g0 g1 g2
                clear hkY
                have hA := A4.out
                go_wp2_with (first
                  | (refine gvstore_list rfl _ _ rfl (c := C) (r := R) (sa := some ⟨g, 0, none⟩) (sn := xs.length) (sc := vc) rfl rfl hA ?_; intro w9 o9 k9; have O9 := Lib.hid o9; have B9 : Hid (Below w.heap.size w w9) := below_grown B4.out k9 (by omega) B4.out.size; have R9 := Lib.hid (crow_other R4.out k9 (by omega)); clear o9 k9 hA)
                  | go_in)
                clear g0 g1 g2
                have g0 := Own.cell O9.out 0
                have g1 := Own.cell O9.out 1
                have g2 := Own.cell O9.out 2
                simp only [List.getElem?_toArray, List.getElem?_cons_zero, List.getElem?_cons_succ] at g0 g1 g2
                (try simp only [Exit.inBlock, Exit.then])
                refine bodyPost_ret (v := .agg #[.int .i64 C, .int .i64 R, .slice (some ⟨g, 0, none⟩) xs.length vc]) (by simp [results, Tryd.results38, go_sem, g0, g1, g2]) rfl ?_
                rw [HOI.out.1, HOI.out.2, HF.out]
                exact ⟨_, rfl, by rw [← HS.out]; exact R9.out.up B0.out.size, B9.out⟩
end Go.Proofs.YtlhcehealjdbdaaDoor
/- Rows of rows of cells, in memory. -/
namespace Go.Proofs.YtlhcehealjdbdaaDoor
open Go.RowKit
set_option linter.unusedSimpArgs false
set_option linter.unusedVariables false
attribute [local go_sem] alloc_drewN setCell_drewN


/-- A slice of rows, all the caller's own. -/
def RowsAt (w : World) (base : Nat) (v : Value) (L : List (List Glyph)) : Prop := ∃ vs : List Value, vs.length = L.length ∧ w.ownsRow base 29 1 v L.length vs ∧ ∀ i, i < L.length → CRow w 0 (vs.getD i undef) (L.getD i [])
theorem rinfoE : Tryd.prog.info? 29 = some Tryd.t29 := by kernel_rfl
theorem rzeroE : Tryd.t29.zero = some (.slice none 0 0) := by kernel_rfl
theorem apart_rows {w : World} {b1 b2 e1 e2 s1 s2 n1 n2 : Nat} {v1 v2 : Value} {x1 x2 : List Value} (h1 : w.ownsRow b1 e1 s1 v1 n1 x1) (h2 : w.ownsRow b2 e2 s2 v2 n2 x2) (hne : e1 ≠ e2) : v1.ownBlock = none ∨ v1.ownBlock ≠ v2.ownBlock := by
  rcases h1.2 with ⟨rfl, _⟩ | ⟨g, cap, cur, rfl, _, hg, _⟩
  · exact .inl rfl
  · rcases h2.2 with ⟨rfl, _⟩ | ⟨g', cap', cur', rfl, _, hg', _⟩
    · exact .inr (fun e => by cases e)
    · refine .inr (fun e => ?_)
      simp only [Value.ownBlock, Option.some.injEq] at e
      subst e
      rw [hg] at hg'
      injection hg' with hg'
      injection hg' with _ hg' _
      exact hne hg'
theorem apart_own {w : World} {b1 e1 s1 n1 b t : Nat} {v1 : Value} {x1 : List Value} {cs : Array Value} (h1 : w.ownsRow b1 e1 s1 v1 n1 x1) (h2 : Own w b t cs) (hne : e1 ≠ t) : v1.ownBlock = none ∨ v1.ownBlock ≠ some b := by
  rcases h1.2 with ⟨rfl, _⟩ | ⟨g, cap, cur, rfl, _, hg, _⟩
  · exact .inl rfl
  · refine .inr (fun e => ?_)
    simp only [Value.ownBlock, Option.some.injEq] at e
    subst e
    unfold Own at h2
    rw [hg] at h2
    injection h2 with h2
    injection h2 with _ h2 _
    exact hne h2
section
variable {w w' : World} {base : Nat} {v : Value} {L : List (List Glyph)}
theorem RowsAt.below (h : RowsAt w base v L) (hb : Below w.heap.size w w') : RowsAt w' base v L := by
  obtain ⟨vs, h1, h2, h3⟩ := h
  exact ⟨vs, h1, h2.kept (grown_of_below hb none) (by cases hv : v.ownBlock <;> simp), fun i hi => (h3 i hi).below hb⟩
theorem RowsAt.past {b t : Nat} {cs : Array Value} (h : RowsAt w base v L) (k : w.grownBy w' (some b)) (ho : Own w b t cs) (h28 : 28 ≠ t) (h29 : 29 ≠ t) : RowsAt w' base v L := by
  obtain ⟨vs, h1, h2, h3⟩ := h
  exact ⟨vs, h1, h2.kept k (apart_own h2 ho h29), fun i hi => World.ownsRow.kept (h3 i hi) k (apart_own (h3 i hi) ho h28)⟩
theorem RowsAt.nil (w : World) : RowsAt (w.alloc (.cells #[] 29)) w.heap.size (.slice (some ⟨w.heap.size, 0, none⟩) 0 0) [] :=
  ⟨[], rfl, World.ownsRow_made (base := w.heap.size) (e := 29) (size := 1) w #[] 0 (Nat.le_refl _) (by decide) rfl, fun i hi => absurd hi (by simp)⟩
theorem rows_form (h : RowsAt w base v L) : ∃ a c, v = .slice a L.length c := by
  obtain ⟨vs, h1, h2, h3⟩ := h
  rcases h2.2 with ⟨e, hn⟩ | ⟨g, cap, cur, e, _⟩
  · exact ⟨none, 0, by rw [e, hn]⟩
  · exact ⟨_, cap, e⟩
theorem rows_addr {a : Option Addr} {n c : Nat} (h : RowsAt w base (.slice a n c) L) (h0 : 0 < n) : ∃ g, a = some ⟨g, 0, none⟩ ∧ L.length = n ∧ base ≤ g ∧ g < w.heap.size ∧ n ≤ c := by
  obtain ⟨vs, h1, h2, h3⟩ := h
  rcases h2.2 with ⟨e, hn⟩ | ⟨g, cap, cur, e, hb, hg, hc, _⟩
  · injection e with _ e _
    omega
  · injection e with e1 e2 e3
    exact ⟨g, e1, e2.symm, hb, (Array.getElem?_eq_some_iff.1 hg).1, by omega⟩
theorem rows_at {g n c i : Nat} (h : RowsAt w base (.slice (some ⟨g, 0, none⟩) n c) L) (hi : i < n) : ∃ a' c', w.cell? ⟨g, i, none⟩ = some (.slice a' (L.getD i []).length c') ∧ CRow w 0 (.slice a' (L.getD i []).length c') (L.getD i []) ∧ w.frozen? ⟨g, i, none⟩ = false := by
  obtain ⟨vs, h1, h2, h3⟩ := h
  rcases h2.2 with ⟨e, hn⟩ | ⟨g', cap, cur, e, hb, hg, hc⟩
  · cases e
  · injection e with e1 e2 e3
    injection e1 with e1
    injection e1 with e1
    subst e1 e3
    have hvi : vs[i]? = some (vs.getD i undef) := by rw [List.getD_eq_getElem?_getD, List.getElem?_eq_getElem (by omega)]; rfl
    have hcell := World.ownsRow.cells h2 (g := g) rfl i _ hvi
    rw [gplain_add] at hcell
    have hrow := h3 i (by omega)
    obtain ⟨a', c', hv, _⟩ := hrow.cells
    rw [hv] at hcell hrow
    exact ⟨a', c', hcell, hrow, Own.frozen (show Own w g 29 cur from hg) i⟩
theorem getD_app {L : List (List Glyph)} {l : List Glyph} {i : Nat} (hi : i < (L ++ [l]).length) : (L ++ [l]).getD i [] = if i < L.length then L.getD i [] else l := by
  rw [List.getD_eq_getElem?_getD, List.getElem?_append]
  split
  · rw [← List.getD_eq_getElem?_getD]
  · have : i - L.length = 0 := by simp at hi; omega
    rw [this]
    rfl
end
section
variable {o : Oper} {a : Act} {w : World} {Q : Exit → Act → World → Prop} {ops : Array Oper} {rest : List Oper}
/-- 'append(L, l)'. -/
theorem rapp (hgd : o.guard = none) (s x : Operand) (ho : o.op = .call { callee := .builtin .append, args := #[s, x], argTypes := #[59, 59] })
    {lo : Nat} {v u : Value} {L : List (List Glyph)} {l : List Glyph} (hs : a.eval s = v) (hown : RowsAt w lo v L) {h1 c : Nat} (hx : a.eval x = .slice (some ⟨h1, 0, none⟩) 1 c) (hu : w.cell? ⟨h1, 0, none⟩ = some u) (hrow : CRow w 0 u l) (hl : L.length ≤ 1000) (hlo : lo ≤ w.heap.size)
    (h : ∀ v' w', RowsAt w' lo v' (L ++ [l]) → w.grownBy w' v.ownBlock → Below lo w w' → wpList Tryd.prog ops Q rest (a.put o.dst v') w') : wpList Tryd.prog ops Q (o :: rest) a w := by
  obtain ⟨vs, k1, k2, k3⟩ := hown
  have hone : u.oneCell' = true := by
    obtain ⟨a', c', e, _⟩ := hrow.cells
    rw [e]
    rfl
  refine wpList_append_own w hgd s x 59 ho lo 29 _ _ 1 24 Tryd.underlying59 rinfoE rzeroE (by kernel_rfl) (by kernel_rfl) rfl (by decide) v L.length vs hs k2 ⟨h1, 0, none⟩ 1 c [u] hx rfl
    (fun j t hj => by
      have : j = 0 := by
        rcases Nat.eq_zero_or_pos j with e | e
        · exact e
        · rw [List.getElem?_eq_none (by simp; omega)] at hj
          cases hj
      subst this
      simp only [List.getElem?_cons_zero, Option.some.injEq] at hj
      subst hj
      rw [gplain_add]
      exact hu) (by simpa using hone) (by unfold maxLen; omega) (by omega) hlo (fun v' w' r1 r2 _ => h v' w' ?_ r2 ?_)
  · refine ⟨vs ++ [u], by simp [k1], by simpa using r1, fun i hi => ?_⟩
    rw [getD_app hi]
    have hvi : (vs ++ [u]).getD i undef = if i < vs.length then vs.getD i undef else u := by
      rw [List.getD_eq_getElem?_getD, List.getElem?_append]
      split
      · rw [← List.getD_eq_getElem?_getD]
      · have : i - vs.length = 0 := by simp at hi; omega
        rw [this]
        rfl
    rw [hvi, k1]
    split
    · rename_i hil
      exact World.ownsRow.kept (k3 i hil) r2 (apart_rows (k3 i hil) k2 (by decide))
    · exact World.ownsRow.kept hrow r2 (apart_rows hrow k2 (by decide))
  · exact (Below.refl lo w).grown r2 hlo (fun k hk => (World.ownsRow.lt k2 k hk).1)
/-- A row stored at a place. -/
theorem rset_run {base g n c i : Nat} {L : List (List Glyph)} {l : List Glyph} {ua : Option Addr} {un uc : Nat} (h : RowsAt w base (.slice (some ⟨g, 0, none⟩) n c) L) (hi : i < n) (hrow : CRow w 0 (.slice ua un uc) l) :
    ∃ w', (Instr.storeAt 29 (.pointer (some ⟨g, i, none⟩)) (.slice ua un uc)).run Tryd.prog w = .ok () w' ∧ RowsAt w' base (.slice (some ⟨g, 0, none⟩) n c) (L.set i l) ∧ w.grownBy w' (some g) := by
  obtain ⟨a', c', e0, _, f0⟩ := rows_at h hi
  obtain ⟨vs, k1, k2, k3⟩ := h
  have k := turn_store (turn_refl w (some g)) i (.slice ua un uc)
  have hLn : L.length = n := by
    rcases k2.2 with ⟨e, _⟩ | ⟨g', cap, cur, e, _⟩
    · cases e
    · injection e with _ e _
      exact e.symm
  refine ⟨_, ?_, ⟨vs.set i (.slice ua un uc), by rw [List.length_set, List.length_set, k1], ?_, fun j hj => ?_⟩, k⟩
  · clear k k1 k2 k3
    go_simp
  · rw [List.length_set]
    rcases k2.2 with ⟨e, _⟩ | ⟨g', cap, cur, e, hb, hg, hc, hm, hsz, htk⟩
    · cases e
    · injection e with e1 e2 e3
      injection e1 with e1
      injection e1 with e1
      subst e1 e3
      refine ⟨by rw [List.length_set, k1, Nat.mul_one], .inr ⟨g, c, _, by rw [hLn], hb, Own.store (show Own w g 29 cur from hg) i (.slice ua un uc), hc, hm, by simpa using hsz, ?_⟩⟩
      rw [Array.toList_setIfInBounds, gtake_set, htk]
  · rw [List.length_set] at hj
    have e1 : (vs.set i (.slice ua un uc)).getD j undef = if j = i then .slice ua un uc else vs.getD j undef := by
      by_cases hji : j = i
      · subst hji
        rw [if_pos rfl, List.getD_eq_getElem?_getD, List.getElem?_set_self (by omega)]
        rfl
      · rw [if_neg hji, List.getD_eq_getElem?_getD, List.getElem?_set_ne (fun e => hji e.symm), ← List.getD_eq_getElem?_getD]
    have e2 : (L.set i l).getD j [] = if j = i then l else L.getD j [] := by
      by_cases hji : j = i
      · subst hji
        rw [if_pos rfl, List.getD_eq_getElem?_getD, List.getElem?_set_self (by omega)]
        rfl
      · rw [if_neg hji, List.getD_eq_getElem?_getD, List.getElem?_set_ne (fun e => hji e.symm), ← List.getD_eq_getElem?_getD]
    rw [e1, e2]
    split
    · exact World.ownsRow.kept hrow k (apart_rows hrow k2 (by decide))
    · exact World.ownsRow.kept (k3 j hj) k (apart_rows (k3 j hj) k2 (by decide))
end
end Go.Proofs.YtlhcehealjdbdaaDoor
/- The grid of rows, as the document builds it. -/
namespace Go.Proofs.YtlhcehealjdbdaaDoor
open Go.RowKit
set_option linter.unusedSimpArgs false
set_option linter.unusedVariables false
attribute [local go_sem] alloc_drewN setCell_drewN


section
variable {o : Oper} {a : Act} {w : World} {Q : Exit → Act → World → Prop} {ops : Array Oper} {rest : List Oper}
/-- 'append(l, xs...)' at rows of cells, l the caller's own. -/
theorem gapp_op {K : Act → World → Prop} (s x : Operand) (ho : o.op = .call { callee := .builtin .append, args := #[s, x], argTypes := #[29, 29] })
    {lo : Nat} {v : Value} {ys qs : List Glyph} (hs : a.eval s = v) (hown : CRow w lo v ys) {ad : Addr} {m c : Nat} (hx : a.eval x = .slice (some ad) m c) (hu : Cells w (some ad) m qs) (hl : ys.length + m ≤ 1000000) (hlo : lo ≤ w.heap.size)
    (h : ∀ v' w', CRow w' lo v' (ys ++ qs) → w.grownBy w' v.ownBlock → K (a.put o.dst v') w') : Oper.wp Tryd.prog o a w K Q := by
  obtain rfl := hu.1
  refine wp_append_own w s x 29 ho lo 28 _ _ 6 20 Tryd.underlying29 ginfoE gzeroE (by kernel_rfl) (by kernel_rfl) rfl (by decide) v ys.length (flat ys) hs hown ad qs.length c (flat qs) hx (flat_len qs)
    (cells_src hu) (flat_one qs) (by unfold maxLen; omega) (by omega) hlo (fun v' w' r1 r2 _ => h v' w' ?_ r2)
  show w'.ownsRow lo 28 6 v' (ys ++ qs).length (flat (ys ++ qs))
  rw [List.length_append, flat_app]
  exact r1
theorem gcstore_op {K : Act → World → Prop} (p v : Operand) (ho : o.op = .store 29 p v) {g : Nat} {c0 c1 c2 : Value} {sa : Option Addr} {sn sc : Nat} (hp : a.eval p = .pointer (some ⟨g, 2, none⟩)) (hv : a.eval v = .slice sa sn sc)
    (hr : Own w g 49 #[c0, c1, c2]) (h : ∀ w', Own w' g 49 #[c0, c1, .slice sa sn sc] → w.grownBy w' (some g) → K (a.put o.dst undef) w') : Oper.wp Tryd.prog o a w K Q := by
  have hrun : ∃ w', (Instr.storeAt 29 (.pointer (some ⟨g, 2, none⟩)) (.slice sa sn sc)).run Tryd.prog w = .ok () w' ∧ Own w' g 49 #[c0, c1, .slice sa sn sc] ∧ w.grownBy w' (some g) := by
    have p2 := hr.cell 2
    have f2 := hr.frozen 2
    simp only [List.getElem?_toArray, List.getElem?_cons_zero, List.getElem?_cons_succ] at p2
    have h2 : Own (w.setCell ⟨g, 2, none⟩ (.slice sa sn sc)) g 49 #[c0, c1, .slice sa sn sc] := by simpa using hr.store 2 (.slice sa sn sc)
    refine ⟨_, ?_, h2, turn_store (turn_refl w _) _ _⟩
    clear h2
    go_simp
  obtain ⟨w', hrun, h1, h2⟩ := hrun
  unfold Oper.wp execOp
  simp only [ho, hp, hv, Sem.run_bind, hrun, Result.andThen_ok]
  simp only [Sem.run_pure, Oper.upon]
  exact h w' h1 h2
/-- Its columns alone. -/
theorem gistore_list (hgd : o.guard = none) (p v : Operand) (ho : o.op = .store 3 p v) {g : Nat} {c0 c1 c2 : Value} {x : Int} (hp : a.eval p = .pointer (some ⟨g, 0, none⟩)) (hv : a.eval v = .int .i64 x)
    (hr : Own w g 49 #[c0, c1, c2]) (h : ∀ w', Own w' g 49 #[.int .i64 x, c1, c2] → w.grownBy w' (some g) → wpList Tryd.prog ops Q rest (a.put o.dst undef) w') (hc0 : ∃ y : Int, c0 = .int .i64 y) : wpList Tryd.prog ops Q (o :: rest) a w := by
  have hrun : ∃ w', (Instr.storeAt 3 (.pointer (some ⟨g, 0, none⟩)) (.int .i64 x)).run Tryd.prog w = .ok () w' ∧ Own w' g 49 #[.int .i64 x, c1, c2] ∧ w.grownBy w' (some g) := by
    have p0 := hr.cell 0
    have f0 := hr.frozen 0
    simp only [List.getElem?_toArray, List.getElem?_cons_zero, List.getElem?_cons_succ] at p0
    have h2 : Own (w.setCell ⟨g, 0, none⟩ (.int .i64 x)) g 49 #[.int .i64 x, c1, c2] := by simpa using hr.store 0 (.int .i64 x)
    refine ⟨_, ?_, h2, turn_store (turn_refl w _) _ _⟩
    clear h2
    go_simp
  obtain ⟨w', hrun, h1, h2⟩ := hrun
  refine wpList_plain hgd fun K hK => ?_
  unfold Oper.wp execOp
  simp only [ho, hp, hv, Sem.run_bind, hrun, Result.andThen_ok]
  simp only [Sem.run_pure, Oper.upon]
  exact hK _ _ (h w' h1 h2)
end
def OfRel (w : World) (C R : Nat) (L : List (List Glyph)) (q : Nat) (wr : World) : Prop :=
  ∃ (c : Nat) (va : Option Addr) (vn vc : Nat), Own wr (w.heap.size + 1) 49 #[.int .i64 c, .int .i64 R, .slice va vn vc] ∧ CRow wr w.heap.size (.slice va vn vc) (L.take q).flatten ∧ Own wr w.heap.size 49 #[.int .i64 0, .int .i64 0, .slice none 0 0] ∧ Below w.heap.size w wr ∧ (0 < q → c = C)
theorem flat_step {L : List (List Glyph)} {q : Nat} (h : q < L.length) : (L.take (q + 1)).flatten = (L.take q).flatten ++ L.getD q [] := by
  rw [List.take_add_one, List.getElem?_eq_getElem h, List.flatten_append]
  rw [List.getD_eq_getElem?_getD, List.getElem?_eq_getElem h]
  simp
theorem flat_take_len {L : List (List Glyph)} {C : Nat} (hC : ∀ i, i < L.length → (L.getD i []).length = C) : ∀ q, q ≤ L.length → ((L.take q).flatten).length = q * C
  | 0, _ => by simp
  | q + 1, h => by
    rw [flat_step (by omega), List.length_append, flat_take_len hC q (by omega), hC q (by omega), Nat.add_mul]
    omega
set_option maxRecDepth 10000 in
set_option maxHeartbeats 2000000 in
theorem of_any (C R gl lc lb : Nat) (L : List (List Glyph)) (w : World) (hL : RowsAt w lb (.slice (some ⟨gl, 0, none⟩) R lc) L) (hR1 : 1 ≤ R) (hR24 : R ≤ 24) (h1 : 1 ≤ C) (h8 : C ≤ 80) (hC : ∀ i, i < R → (L.getD i []).length = C) : Calls Tryd.prog 56 #[.slice (some ⟨gl, 0, none⟩) R lc] w (GG C R L.flatten w) := by
  obtain ⟨g', e', hLn, _, hglw, _⟩ := rows_addr hL (by omega)
  cases e'
  have HL := Lib.hid hL
  have HLN := Lib.hid hLn
  have HCC := Lib.hid hC
  clear hL hLn hC
  go_enter Tryd.func56, Tryd.ntmps56
  go_upto_region 2 with fail
  have HL0 : Hid (OfRel w C R L 0 ((w.alloc (.cells #[.int .i64 0, .int .i64 0, .slice none 0 0] 49)).alloc (.cells #[.int .i64 0, .int .i64 R, .slice none 0 0] 49))) := ⟨0, none, 0, 0, by
    have h := Own.new (w.alloc (.cells #[.int .i64 0, .int .i64 0, .slice none 0 0] 49)) 49 #[.int .i64 0, .int .i64 R, .slice none 0 0]
    simpa using h, CRow.nil _ _, (Own.new w 49 _).alloc _, ((Below.refl _ _).alloc (Nat.le_refl _) _).alloc (by simp) _, fun h => absurd h (by omega)⟩
  generalize (w.alloc (.cells #[.int .i64 0, .int .i64 0, .slice none 0 0] 49)).alloc (.cells #[.int .i64 0, .int .i64 R, .slice none 0 0] 49) = w2 at HL0 ⊢
  go_wp2_with fail
  go_loopw [10] (fun v wr => ∃ q : Nat, q ≤ R ∧ v = .int .i64 q ∧ Hid (OfRel w C R L q wr)) (fun v _ => R - (intOf v).toNat)
  case atStart => exact ⟨0, by omega, rfl, HL0⟩
  case round =>
    obtain ⟨q, hq1, rfl, HR⟩ := hrel
    clear HL0
    by_cases hq : q < R
    · have hi0 : (0 : Int) ≤ (q : Int) := by omega
      have hi1 : (q : Int) < (R : Int) := by omega
      have hdq : decide (q < R) = true := decide_eq_true hq
      have HQ : Hid (q < R) := hq
      obtain ⟨c, va, vn, vc, ho, hr, hzg, hbl, _⟩ := HR.out
      have O1 := Lib.hid ho
      have R1 := Lib.hid hr
      have Z1 := Lib.hid hzg
      have B1 := Lib.hid hbl
      clear ho hr hzg hbl HR
      obtain ⟨ra', rc, hcw, hrw, _⟩ := rows_at HL.out hq
      rw [HCC.out q hq] at hcw hrw
      have hcl := cells_of hrw
      obtain ⟨rb, ro, hra, _, _⟩ := hcl.2.2 (by omega)
      obtain ⟨ra, hra2⟩ : ∃ ra, ra' = some ra := ⟨_, hra⟩
      subst hra2
      have HCW := Lib.hid hcw
      have HTL : Hid (((L.take q).flatten).length = q * C) := flat_take_len (fun i hi => HCC.out i (by rw [← HLN.out]; exact hi)) q (by rw [HLN.out]; omega)
      have HTK : Hid ((L.take (q + 1)).flatten = (L.take q).flatten ++ L.getD q []) := flat_step (by rw [HLN.out]; exact hq)
      have HCL := Lib.hid hcl
      clear hcw hrw hcl hra
      have e0 : wr.cell? ⟨gl, q, none⟩ = some (.slice (some ra) C rc) := (B1.out.cell (p := ⟨gl, q, none⟩) hglw).trans HCW.out
      have hO := O1.out
      go_upto_region 6 with (first
        | (refine gistore_list rfl _ _ rfl (x := C) rfl rfl hO ?_ ⟨_, rfl⟩; intro w3 o3 k3; have O3 := Lib.hid o3; have B3 : Hid (Below w.heap.size w w3) := below_grown B1.out k3 (by omega) B1.out.size; have R3 : Hid (CRow w3 w.heap.size (.slice va vn vc) (L.take q).flatten) := World.ownsRow.kept R1.out k3 (apart_own R1.out O1.out (by decide)); have Z3 := Lib.hid (Z1.out.grown k3 (fun e => by injection e with e; omega)); clear o3 k3 hO)
        | go_in)
      (try simp only [Act.put])
      clear e0 O1 R1 B1 Z1
      have HR3 : Hid (Cells w3.drew (some ra) C (L.getD q [])) := HCL.out.below (below_drewN B3.out 1)
      have S3 : Hid (w3.drew.cell? ⟨w.heap.size + 1, 2, none⟩ = some (.slice va vn vc) ∧ w3.drew.cell? ⟨gl, q, none⟩ = some (.slice (some ra) C rc)) := ⟨Own.cell O3.out 2, ((below_drewN B3.out 1).cell (p := ⟨gl, q, none⟩) hglw).trans HCW.out⟩
      have R3' : Hid (CRow w3.drew w.heap.size (.slice va vn vc) (L.take q).flatten) := R3.out
      have O3' : Hid (Own w3.drew (w.heap.size + 1) 49 #[.int .i64 C, .int .i64 R, .slice va vn vc]) := O3.out
      have Z3' : Hid (Own w3.drew w.heap.size 49 #[.int .i64 0, .int .i64 0, .slice none 0 0]) := Z3.out
      have B3' : Hid (Below w.heap.size w w3.drew) := below_drewN B3.out 1
      clear R3 O3 Z3 B3
      refine wp_region_bits_at (S := fun w' => w'.cell? ⟨w.heap.size + 1, 2, none⟩ = some (.slice va vn vc) ∧ w'.cell? ⟨gl, q, none⟩ = some (.slice (some ra) C rc)) [(0, true), (1, true), (2, true), (3, true), (4, true), (5, true), (6, false), (7, true), (8, false)] [8] (by kernel_rfl) (by kernel_rfl) (fun c a d v w h => by cases d <;> exact h) S3.out ?_
      simp only [bits_, bitOf, List.getElem?_cons_zero, List.getElem?_cons_succ, List.contains_nil, List.contains_cons, Nat.reduceBEq, Bool.or_false]
      repeat (first | (refine bits_take (v := ?_) (by rfl) ?_ ?_; rotate_left; (· intro w' hS; obtain ⟨s0, s1⟩ := hS; go_simp; (try (go_ints; try go_simp)); with_reducible rfl); (try simp only [Act.put, List.setIfInBounds_toArray, List.set_cons_zero, List.set_cons_succ])) | (refine bits_skip (by rfl) ?_; (try simp only [Act.put, List.setIfInBounds_toArray, List.set_cons_zero, List.set_cons_succ])))
      refine bits_eff (by rfl) (fun K hK => ?_)
      refine gapp_op _ _ rfl rfl R3'.out rfl HR3.out (by rw [HTL.out]; have := mul_row (c := C) HQ.out; have := mul_bound h8 hR24; omega) B3'.out.size fun v4 w4 r4 k4 => ?_
      have hno := fun e : (Value.slice va vn vc).ownBlock = some (w.heap.size + 1) => (apart_own R3'.out O3'.out (by decide)).elim (fun h => by rw [h] at e; cases e) (fun h => h e)
      have hnz := fun e : (Value.slice va vn vc).ownBlock = some w.heap.size => (apart_own R3'.out Z3'.out (by decide)).elim (fun h => by rw [h] at e; cases e) (fun h => h e)
      have O4 := Lib.hid (O3'.out.grown k4 (fun e => hno e.symm))
      have Z4 := Lib.hid (Z3'.out.grown k4 (fun e => hnz e.symm))
      have B4 : Hid (Below w.heap.size w w4) := B3'.out.grown k4 B3'.out.size (fun j hj => (World.ownsRow.lt R3'.out j hj).1)
      have R4 := Lib.hid r4
      obtain ⟨vb, vd, rfl, _⟩ := r4.cells
      have S4 : Hid (w4.cell? ⟨w.heap.size + 1, 2, none⟩ = some (.slice va vn vc) ∧ w4.cell? ⟨gl, q, none⟩ = some (.slice (some ra) C rc)) := ⟨Own.cell O4.out 2, (B4.out.cell (p := ⟨gl, q, none⟩) hglw).trans HCW.out⟩
      clear r4 k4 hno hnz
      refine hK _ _ ?_ ?_
      · exact S4.out
      clear hK K
      (try simp only [Act.put])
      repeat (first | (refine bits_take (v := ?_) (by rfl) ?_ ?_; rotate_left; (· intro w' hS; obtain ⟨s0, s1⟩ := hS; go_simp; (try (go_ints; try go_simp)); with_reducible rfl); (try simp only [Act.put, List.setIfInBounds_toArray, List.set_cons_zero, List.set_cons_succ])) | (refine bits_skip (by rfl) ?_; (try simp only [Act.put, List.setIfInBounds_toArray, List.set_cons_zero, List.set_cons_succ])))
      refine bits_tail (by rfl) (fun K hK => ?_)
      refine gcstore_op _ _ rfl rfl rfl O4.out fun w5 o5 k5 => ?_
      have HY : Hid (OfRel w C R L (q + 1) w5) := ⟨C, _, _, _, o5, by rw [HTK.out]; exact World.ownsRow.kept R4.out k5 (apart_own R4.out O4.out (by decide)), Z4.out.grown k5 (fun e => by injection e with e; omega), below_grown B4.out k5 (by omega) B4.out.size, fun _ => rfl⟩
      refine hK _ _ ?_
      clear hK K
      (try simp only [Act.put])
      repeat (first | (refine bits_take (v := ?_) (by rfl) ?_ ?_; rotate_left; (· intro w' hS; obtain ⟨s0, s1⟩ := hS; go_simp; (try (go_ints; try go_simp)); with_reducible rfl); (try simp only [Act.put, List.setIfInBounds_toArray, List.set_cons_zero, List.set_cons_succ])) | (refine bits_skip (by rfl) ?_; (try simp only [Act.put, List.setIfInBounds_toArray, List.set_cons_zero, List.set_cons_succ])))
      refine bits_nil ?_
      go_wp2_with fail
      go_roundw
      case rel => exact ⟨q + 1, HQ.out, by go_num, HY⟩
      case measure => have := HQ.out; simp [intOf]; omega
    · obtain rfl : q = R := by omega
      have hdq : decide (q < q) = false := decide_eq_false hq
      obtain ⟨c, va, vn, vc, ho, hr, hzg, hbl, hcC⟩ := HR.out
      obtain rfl : c = C := hcC (by omega)
      have hown := hzg
      have R1 := Lib.hid hr
      have B1 := Lib.hid hbl
      have Z1 := Lib.hid hzg
      have g0 := Own.cell ho 0
      have g1 := Own.cell ho 1
      have g2 := Own.cell ho 2
      simp only [List.getElem?_toArray, List.getElem?_cons_zero, List.getElem?_cons_succ] at g0 g1 g2
      clear hr hzg hbl hcC hq HR
      go_wp2_with (first
        | (refine gvstore_list rfl _ _ rfl (c := c) (r := q) (sa := va) (sn := vn) (sc := vc) rfl rfl hown ?_; intro w5 o5 k5; have O5 := Lib.hid o5; have B5 : Hid (Below w.heap.size w w5) := below_grown B1.out k5 (Nat.le_refl _) B1.out.size; have R5 : Hid (CRow w5 w.heap.size (.slice va vn vc) (L.take q).flatten) := World.ownsRow.kept R1.out k5 (apart_own R1.out Z1.out (by decide)); clear o5 k5 hown)
        | go_in)
      clear g0 g1 g2 ho
      have g0 := Own.cell O5.out 0
      have g1 := Own.cell O5.out 1
      have g2 := Own.cell O5.out 2
      simp only [List.getElem?_toArray, List.getElem?_cons_zero, List.getElem?_cons_succ] at g0 g1 g2
      (try simp only [Exit.inBlock, Exit.then])
      refine bodyPost_ret (v := .agg #[.int .i64 c, .int .i64 q, .slice va vn vc]) (by simp [results, Tryd.results56, go_sem, g0, g1, g2]) rfl ?_
      exact ⟨_, rfl, by
        have e : L.take q = L := List.take_of_length_le (by rw [HLN.out]; exact Nat.le_refl _)
        rw [← e]
        exact R5.out, B5.out⟩
end Go.Proofs.YtlhcehealjdbdaaDoor
