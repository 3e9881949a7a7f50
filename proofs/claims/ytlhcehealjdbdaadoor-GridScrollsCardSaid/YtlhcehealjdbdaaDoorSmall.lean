/- Which colours, pens and cells may be; a pen's blank. -/
import Derived.Test.YtlhcehealjdbdaaDoorRefWidth
import Derived.Deep.DeepCutAuto
namespace Go.Proofs.YtlhcehealjdbdaaDoor
open Go.RowKit
attribute [local go_sem] alloc_drewN setCell_drewN


def RVal (v : Value) (w : World) (e : Ending) (w' : World) : Prop := e = .returned v ∧ Below w.heap.size w w'
theorem RVal.as {P : Program} {f : FuncId} {args : Array Value} {w : World} {v v' : Value} (h : Calls P f args w (RVal v w)) (e : v = v') : Calls P f args w (RVal v' w) := by
  subst e
  exact h
def colorMay (c : Int) : Bool := decide (c ≤ 256) || decide (16777216 ≤ c) && decide (c < 33554432)
def penMay (f b : Int) : Bool := colorMay f && colorMay b
def blank (b : Int) : Glyph := ⟨32, 0, 0, b, 0, 0⟩
def gmay (c : Glyph) : Bool := penMay c.f c.b && (if c.w = 0 then width c.r == 1 else if c.w = 1 then width c.r == 2 else c.w == 2 && c.r == 0)
theorem color_any (c : Int) (w : World) : Calls Tryd.prog 16 #[.int .u32 c] w (RVal (.bool (colorMay c)) w) := by
  cases h1 : decide (c ≤ 256) with
  | true =>
    go_enter Tryd.func16, Tryd.ntmps16
    go_wp2_with fail
    go_ret
    exact ⟨by unfold colorMay; rw [h1]; rfl, Below.refl _ _⟩
  | false =>
    cases h2 : decide (16777216 ≤ c) with
    | false =>
      go_enter Tryd.func16, Tryd.ntmps16
      go_wp2_with fail
      go_ret
      exact ⟨by unfold colorMay; rw [h1, h2]; rfl, Below.refl _ _⟩
    | true =>
      cases h3 : decide (c ≤ 33554431) with
      | false =>
        have h4 : decide (c < 33554432) = false := by rw [← h3]; exact decide_eq_decide.2 (by omega)
        have HZ : Hid (colorMay c = false) := by unfold colorMay; rw [h1, h2, h4]; rfl
        clear h4
        go_enter Tryd.func16, Tryd.ntmps16
        go_wp2_with fail
        go_ret
        exact ⟨by rw [HZ.out]; rfl, Below.refl _ _⟩
      | true =>
        have h4 : decide (c < 33554432) = true := by rw [← h3]; exact decide_eq_decide.2 (by omega)
        have HZ : Hid (colorMay c = true) := by unfold colorMay; rw [h1, h2, h4]; rfl
        clear h4
        go_enter Tryd.func16, Tryd.ntmps16
        go_wp2_with fail
        go_ret
        exact ⟨by rw [HZ.out]; rfl, Below.refl _ _⟩
theorem ref_color_any (c : Int) (w : World) : Calls Tryd.prog 17 #[.int .u32 c] w (RVal (.bool (colorMay c)) w) := by
  cases h1 : decide (c ≤ 256) with
  | true =>
    go_enter Tryd.func17, Tryd.ntmps17
    go_wp2_with fail
    go_ret
    exact ⟨by unfold colorMay; rw [h1]; rfl, Below.refl _ _⟩
  | false =>
    cases h2 : decide (16777216 ≤ c) with
    | false =>
      go_enter Tryd.func17, Tryd.ntmps17
      go_wp2_with fail
      go_ret
      exact ⟨by unfold colorMay; rw [h1, h2]; rfl, Below.refl _ _⟩
    | true =>
      cases h3 : decide (c < 33554432) with
      | false =>
        skip
        have HZ : Hid (colorMay c = false) := by unfold colorMay; rw [h1, h2, h3]; rfl
        skip
        go_enter Tryd.func17, Tryd.ntmps17
        go_wp2_with fail
        go_ret
        exact ⟨by rw [HZ.out]; rfl, Below.refl _ _⟩
      | true =>
        skip
        have HZ : Hid (colorMay c = true) := by unfold colorMay; rw [h1, h2, h3]; rfl
        skip
        go_enter Tryd.func17, Tryd.ntmps17
        go_wp2_with fail
        go_ret
        exact ⟨by rw [HZ.out]; rfl, Below.refl _ _⟩
theorem pen_any (f b a l : Int) (w : World) : Calls Tryd.prog 45 #[(.agg #[.int .u32 f, .int .u32 b, .int .u8 a, .int .u16 l])] w (RVal (.bool (penMay f b)) w) := by
  obtain ⟨bf, hf⟩ : ∃ x, colorMay f = x := ⟨_, rfl⟩
  obtain ⟨bb, hb⟩ : ∃ x, colorMay b = x := ⟨_, rfl⟩
  have HF := Lib.hid hf
  have HBX := Lib.hid hb
  have hob := Own.new w 26 #[.int .u32 f, .int .u32 b, .int .u8 a, .int .u16 l]
  have HOB := Lib.hid hob
  clear hf hb hob
  go_enter Tryd.func45, Tryd.ntmps45
  go_wp2_with fail
  refine (RVal.as (color_any f _) (congrArg Value.bool HF.out)).mono ?_
  rintro e w1 ⟨rfl, b1⟩
  have e1 := Own.cell (HOB.out.below b1 (by simp)) 1
  simp only [List.getElem?_toArray, List.getElem?_cons_zero, List.getElem?_cons_succ] at e1
  cases bf with
  | false =>
    go_wp2_with fail
    go_ret
    exact ⟨by unfold penMay; rw [HF.out]; rfl, ((Below.refl _ _).alloc (Nat.le_refl _) _).trans (b1.mono (by simp))⟩
  | true =>
    go_wp2_with fail
    refine (RVal.as (color_any b _) (congrArg Value.bool HBX.out)).mono ?_
    rintro e w2 ⟨rfl, b2⟩
    go_wp2_with fail
    go_ret
    exact ⟨by unfold penMay; rw [HF.out, HBX.out]; rfl, ((Below.refl _ _).alloc (Nat.le_refl _) _).trans ((b1.trans (b2.mono b1.size)).mono (by simp))⟩
theorem ref_pen_any (f b a l : Int) (w : World) : Calls Tryd.prog 25 #[(.agg #[.int .u32 f, .int .u32 b, .int .u8 a, .int .u16 l])] w (RVal (.bool (penMay f b)) w) := by
  obtain ⟨bf, hf⟩ : ∃ x, colorMay f = x := ⟨_, rfl⟩
  obtain ⟨bb, hb⟩ : ∃ x, colorMay b = x := ⟨_, rfl⟩
  have HF := Lib.hid hf
  have HBX := Lib.hid hb
  have hob := Own.new w 26 #[.int .u32 f, .int .u32 b, .int .u8 a, .int .u16 l]
  have HOB := Lib.hid hob
  clear hf hb hob
  go_enter Tryd.func25, Tryd.ntmps25
  go_wp2_with fail
  refine (RVal.as (ref_color_any f _) (congrArg Value.bool HF.out)).mono ?_
  rintro e w1 ⟨rfl, b1⟩
  have e1 := Own.cell (HOB.out.below b1 (by simp)) 1
  simp only [List.getElem?_toArray, List.getElem?_cons_zero, List.getElem?_cons_succ] at e1
  cases bf with
  | false =>
    go_wp2_with fail
    go_ret
    exact ⟨by unfold penMay; rw [HF.out]; rfl, ((Below.refl _ _).alloc (Nat.le_refl _) _).trans (b1.mono (by simp))⟩
  | true =>
    go_wp2_with fail
    refine (RVal.as (ref_color_any b _) (congrArg Value.bool HBX.out)).mono ?_
    rintro e w2 ⟨rfl, b2⟩
    go_wp2_with fail
    go_ret
    exact ⟨by unfold penMay; rw [HF.out, HBX.out]; rfl, ((Below.refl _ _).alloc (Nat.le_refl _) _).trans ((b1.trans (b2.mono b1.size)).mono (by simp))⟩
theorem gpen_any (f b a l : Int) (w : World) : Calls Tryd.prog 74 #[(.agg #[.int .u32 f, .int .u32 b, .int .u8 a, .int .u16 l])] w (RVal (.bool (penMay f b)) w) := by
  obtain ⟨bf, hf⟩ : ∃ x, colorMay f = x := ⟨_, rfl⟩
  obtain ⟨bb, hb⟩ : ∃ x, colorMay b = x := ⟨_, rfl⟩
  have HF := Lib.hid hf
  have HBX := Lib.hid hb
  have hob := Own.new w 26 #[.int .u32 f, .int .u32 b, .int .u8 a, .int .u16 l]
  have HOB := Lib.hid hob
  clear hf hb hob
  go_enter Tryd.func74, Tryd.ntmps74
  go_wp2_with fail
  refine (RVal.as (color_any f _) (congrArg Value.bool HF.out)).mono ?_
  rintro e w1 ⟨rfl, b1⟩
  have e1 := Own.cell (HOB.out.below b1 (by simp)) 1
  simp only [List.getElem?_toArray, List.getElem?_cons_zero, List.getElem?_cons_succ] at e1
  cases bf with
  | false =>
    go_wp2_with fail
    go_ret
    exact ⟨by unfold penMay; rw [HF.out]; rfl, ((Below.refl _ _).alloc (Nat.le_refl _) _).trans (b1.mono (by simp))⟩
  | true =>
    go_wp2_with fail
    refine (RVal.as (color_any b _) (congrArg Value.bool HBX.out)).mono ?_
    rintro e w2 ⟨rfl, b2⟩
    go_wp2_with fail
    go_ret
    exact ⟨by unfold penMay; rw [HF.out, HBX.out]; rfl, ((Below.refl _ _).alloc (Nat.le_refl _) _).trans ((b1.trans (b2.mono b1.size)).mono (by simp))⟩
theorem blank_any (f b a l : Int) (w : World) : Calls Tryd.prog 22 #[(.agg #[.int .u32 f, .int .u32 b, .int .u8 a, .int .u16 l])] w (RVal (.agg #[.int .i32 (blank b).r, .int .u8 (blank b).w, .int .u32 (blank b).f, .int .u32 (blank b).b, .int .u8 (blank b).a, .int .u16 (blank b).l]) w) := by
  go_enter Tryd.func22, Tryd.ntmps22
  go_wp2_with fail
  refine bodyPost_ret (v := (.agg #[.int .i32 (blank b).r, .int .u8 (blank b).w, .int .u32 (blank b).f, .int .u32 (blank b).b, .int .u8 (blank b).a, .int .u16 (blank b).l])) (by simp [results, Tryd.results22, go_sem, blank]) rfl ?_
  exact ⟨rfl, ((Below.refl _ _).alloc (Nat.le_refl _) _).alloc (by simp) _⟩
theorem ref_blank_any (f b a l : Int) (w : World) : Calls Tryd.prog 23 #[(.agg #[.int .u32 f, .int .u32 b, .int .u8 a, .int .u16 l])] w (RVal (.agg #[.int .i32 (blank b).r, .int .u8 (blank b).w, .int .u32 (blank b).f, .int .u32 (blank b).b, .int .u8 (blank b).a, .int .u16 (blank b).l]) w) := by
  go_enter Tryd.func23, Tryd.ntmps23
  go_wp2_with fail
  refine bodyPost_ret (v := (.agg #[.int .i32 (blank b).r, .int .u8 (blank b).w, .int .u32 (blank b).f, .int .u32 (blank b).b, .int .u8 (blank b).a, .int .u16 (blank b).l])) (by simp [results, Tryd.results23, go_sem, blank]) rfl ?_
  exact ⟨rfl, ((Below.refl _ _).alloc (Nat.le_refl _) _).alloc (by simp) _⟩
end Go.Proofs.YtlhcehealjdbdaaDoor
