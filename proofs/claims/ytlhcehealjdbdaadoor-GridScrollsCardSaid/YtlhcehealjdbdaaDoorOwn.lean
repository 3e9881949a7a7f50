/- A copy to work on. -/
import Derived.Test.YtlhcehealjdbdaaDoorCut
import Derived.Deep.DeepCutAuto
namespace Go.Proofs.YtlhcehealjdbdaaDoor
open Go.RowKit
attribute [local go_sem] alloc_drewN setCell_drewN


def OwnPost (t : Bool) (xs : List Glyph) (w : World) (e : Ending) (w' : World) : Prop := ∃ v', e = .returned (.tuple #[v', .bool t]) ∧ CRow w' w.heap.size v' (if t = true then xs else []) ∧ Below w.heap.size w w'
set_option maxHeartbeats 1000000 in
theorem own_any (a : Option Addr) (n c : Nat) (f b d l : Int) (xs : List Glyph) (w : World) (hl : Cells w a n xs) (ht : Tabs w) : Calls Tryd.prog 48 #[.slice a n c, .agg #[.int .u32 f, .int .u32 b, .int .u8 d, .int .u16 l]] w (OwnPost (rowMay xs && penMay f b) xs w) := by
  obtain rfl := hl.1
  have HL := Lib.hid hl
  have HT := Lib.hid ht
  have B0 : Hid (Below w.heap.size w (w.alloc (.cells #[.int .u32 f, .int .u32 b, .int .u8 d, .int .u16 l] 26))) := (Below.refl _ _).alloc (Nat.le_refl _) _
  have hob := Own.new w 26 #[.int .u32 f, .int .u32 b, .int .u8 d, .int .u16 l]
  have hlt : w.heap.size < (w.alloc (.cells #[.int .u32 f, .int .u32 b, .int .u8 d, .int .u16 l] 26)).heap.size := by simp
  clear hl ht
  obtain ⟨rb, hrb⟩ : ∃ rb, rowMay xs = rb := ⟨_, rfl⟩
  obtain ⟨pb, hpb⟩ : ∃ pb, penMay f b = pb := ⟨_, rfl⟩
  rw [hrb, hpb]
  have HRB := Lib.hid hrb
  have HPB := Lib.hid hpb
  clear hpb
  go_enter Tryd.func48, Tryd.ntmps48
  go_wp2_with fail
  refine (RVal.as (row_any a xs.length c xs _ (HL.out.below B0.out) (HT.out.below B0.out)) (congrArg Value.bool HRB.out)).mono ?_
  rintro e w1 ⟨rfl, b1⟩
  have B1 : Hid (Below w.heap.size w w1) := B0.out.trans (b1.mono B0.out.size)
  have ho1 := hob.below b1 hlt
  have e0 := Own.cell ho1 0
  have e1 := Own.cell ho1 1
  have e2 := Own.cell ho1 2
  have e3 := Own.cell ho1 3
  simp only [List.getElem?_toArray, List.getElem?_cons_zero, List.getElem?_cons_succ] at e0 e1 e2 e3
  clear ho1 hob b1
  cases rb with
  | false =>
    go_wp2_with fail
    go_ret2
    exact ⟨_, rfl, CRow.nil _ _, B1.out⟩
  | true =>
    have hn8 : xs.length ≤ 1000000 := by have := (row_iff.1 hrb).2.1; omega
    go_wp2_with fail
    refine (RVal.as (pen_any f b d l _) (congrArg Value.bool HPB.out)).mono ?_
    rintro e w2 ⟨rfl, b2⟩
    have B2 : Hid (Below w.heap.size w w2) := B1.out.trans (b2.mono B1.out.size)
    clear b2
    cases pb with
    | false =>
      go_wp2_with fail
      go_ret2
      exact ⟨_, rfl, CRow.nil _ _, B2.out⟩
    | true =>
      go_wp2_with fail
      refine (gclone_any a xs.length c xs _ (HL.out.below B2.out) hn8).mono ?_
      rintro e w3 ⟨v3, rfl, r3, b3⟩
      have R3 := Lib.hid (r3.up B2.out.size)
      have B3 : Hid (Below w.heap.size w w3) := B2.out.trans (b3.mono B2.out.size)
      clear r3 b3
      go_wp2_with fail
      go_ret2
      exact ⟨_, rfl, R3.out, B3.out⟩
end Go.Proofs.YtlhcehealjdbdaaDoor
