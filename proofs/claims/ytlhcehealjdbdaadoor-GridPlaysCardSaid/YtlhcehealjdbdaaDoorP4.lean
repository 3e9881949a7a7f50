/- Part 4 of the texts that GridPlays stands on, one behind the other. -/
import Derived.Test.YtlhcehealjdbdaaDoorP3
import Derived.Deep.DeepCutAuto
/- The wide letter whose halves stand on either side of a place is broken. -/
namespace Go.Proofs.YtlhcehealjdbdaaDoor
open Go.RowKit
attribute [local go_sem] alloc_drewN setCell_drewN


/-- A letter cut at x, in a row. -/
def cutP (xs : List Glyph) (x : Nat) : List Glyph := if 0 < x ∧ x < xs.length ∧ (at_ xs x).w = 2 then (xs.set (x - 1) (blank (at_ xs x).b)).set x (blank (at_ xs x).b) else xs
def PenAt (w : World) (b o : Nat) (c : Glyph) : Prop :=
  w.cell? ⟨b, o + 2, none⟩ = some (.int .u32 c.f) ∧ w.cell? ⟨b, o + 3, none⟩ = some (.int .u32 c.b) ∧ w.cell? ⟨b, o + 4, none⟩ = some (.int .u8 c.a) ∧ w.cell? ⟨b, o + 5, none⟩ = some (.int .u16 c.l)
theorem PenAt.below {w w' : World} {b o : Nat} {c : Glyph} (h : PenAt w b o c) (hb : b < w.heap.size) (k : Below w.heap.size w w') : PenAt w' b o c := ⟨(k.cell hb).trans h.1, (k.cell hb).trans h.2.1, (k.cell hb).trans h.2.2.1, (k.cell hb).trans h.2.2.2⟩
theorem at_set_ne {xs : List Glyph} {i j : Nat} {d : Glyph} (h : i ≠ j) : at_ (xs.set i d) j = at_ xs j := by
  unfold at_
  rw [List.getD_eq_getElem?_getD, List.getElem?_set_ne h, ← List.getD_eq_getElem?_getD]
theorem at_set_eq {xs : List Glyph} {i : Nat} {d : Glyph} (h : i < xs.length) : at_ (xs.set i d) i = d := set_getD h
theorem penAt_of {w : World} {base g n c k : Nat} {xs : List Glyph} (h : CRow w base (.slice (some ⟨g, 0, none⟩) n c) xs) (hk : k < n) (z : Glyph) (hz : at_ xs k = z) : PenAt w g (k * 6) z := by
  subst hz
  exact (crow_at h hk).1.2.2
def CutPost (base : Nat) (v : Value) (xs : List Glyph) (g : Nat) (w : World) (e : Ending) (w' : World) : Prop := e = .returned (.tuple #[]) ∧ CRow w' base v xs ∧ w.grownBy w' (some g)
set_option maxRecDepth 10000 in
set_option maxHeartbeats 2000000 in
theorem cut_any (base g n c x : Nat) (xs : List Glyph) (w : World) (hr : CRow w base (.slice (some ⟨g, 0, none⟩) n c) xs) (hn : n ≤ 80) (hx : x ≤ 80) : Calls Tryd.prog 49 #[.slice (some ⟨g, 0, none⟩) n c, .int .i64 x] w (CutPost base (.slice (some ⟨g, 0, none⟩) n c) (cutP xs x) g w) := by
  have HR := Lib.hid hr
  obtain rfl := crow_len hr
  clear hr
  by_cases h1 : 0 < x
  · have hd1 : decide (0 < (x : Int)) = true := decide_eq_true (by omega)
    have hd1' : decide (0 < x) = true := decide_eq_true h1
    by_cases h2 : x < xs.length
    · have hd2 : decide (x < xs.length) = true := decide_eq_true h2
      obtain ⟨z, hz⟩ : ∃ z, at_ xs x = z := ⟨_, rfl⟩
      have HZ := Lib.hid hz
      have hga := crow_at HR.out h2
      have hz' : xs.getD x g0 = z := hz
      rw [hz'] at hga
      obtain ⟨⟨e0, e1, e2, e3, e4, e5⟩, hbg, hfz⟩ := hga
      have hg : g < w.heap.size := (World.ownsRow.lt HR.out g rfl).2
      have HS0 : Hid (PenAt w.drew g (x * 6) z) := ⟨e2, e3, e4, e5⟩
      have hi0 : (1 : Int) ≤ (x : Int) := by omega
      have hi1 : (x : Int) - 1 < xs.length := by omega
      have HRD : Hid (CRow w.drew base (.slice (some ⟨g, 0, none⟩) xs.length c) xs) := HR.out
      have hxp : x - 1 < xs.length := by omega
      clear hz hz'
      cases h3 : (z.w == 2) with
      | true =>
        go_enter Tryd.func49, Tryd.ntmps49
        go_wp2_with fail
        refine wp_region_bits_at (S := fun w' => PenAt w' g (x * 6) z) [(0, true), (1, true), (2, true), (3, true), (4, true), (5, true), (6, true), (7, true), (8, true), (9, true), (11, true), (12, true), (13, true), (14, true), (15, true), (10, false), (16, false), (17, true), (18, false), (19, true), (20, false)] [20] (by kernel_rfl) (by kernel_rfl) (fun c a d v w h => by cases d <;> exact h) HS0.out ?_
        simp only [bits_, bitOf, List.getElem?_cons_zero, List.getElem?_cons_succ, List.contains_nil, List.contains_cons, Nat.reduceBEq, Bool.or_false]
        repeat (first | (refine bits_take (v := ?_) (by rfl) ?_ ?_; rotate_left; (· intro w' hS; obtain ⟨s2, s3, s4, s5⟩ := hS; go_simp; (try (go_ints; try go_simp)); with_reducible rfl); (try simp only [Act.put, List.setIfInBounds_toArray, List.set_cons_zero, List.set_cons_succ])) | (refine bits_skip (by rfl) ?_; (try simp only [Act.put, List.setIfInBounds_toArray, List.set_cons_zero, List.set_cons_succ])))
        refine bits_eff (by rfl) (fun K hK => ?_)
        go_simp
        (try go_ints)
        refine (blank_any z.f z.b z.a z.l _).mono ?_
        rintro e w1 ⟨rfl, b1⟩
        refine hK _ _ ?_ ?_
        · exact HS0.out.below hg b1
        clear hK K
        (try simp only [Act.put, List.setIfInBounds_toArray, List.set_cons_zero, List.set_cons_succ])
        repeat (first | (refine bits_take (v := ?_) (by rfl) ?_ ?_; rotate_left; (· intro w' hS; obtain ⟨s2, s3, s4, s5⟩ := hS; go_simp; (try (go_ints; try go_simp)); with_reducible rfl); (try simp only [Act.put, List.setIfInBounds_toArray, List.set_cons_zero, List.set_cons_succ])) | (refine bits_skip (by rfl) ?_; (try simp only [Act.put, List.setIfInBounds_toArray, List.set_cons_zero, List.set_cons_succ])))
        refine bits_eff (by rfl) (fun K hK => ?_)
        go_simp
        (try go_ints)
        refine (blank_any z.f z.b z.a z.l _).mono ?_
        rintro e w2 ⟨rfl, b2⟩
        have R2 := Lib.hid ((HRD.out.below b1).below b2)
        refine hK _ _ ?_ ?_
        · exact (HS0.out.below hg b1).below (Nat.lt_of_lt_of_le hg b1.size) b2
        clear hK K
        (try simp only [Act.put, List.setIfInBounds_toArray, List.set_cons_zero, List.set_cons_succ])
        repeat (first | (refine bits_take (v := ?_) (by rfl) ?_ ?_; rotate_left; (· intro w' hS; obtain ⟨s2, s3, s4, s5⟩ := hS; go_simp; (try (go_ints; try go_simp)); with_reducible rfl); (try simp only [Act.put, List.setIfInBounds_toArray, List.set_cons_zero, List.set_cons_succ])) | (refine bits_skip (by rfl) ?_; (try simp only [Act.put, List.setIfInBounds_toArray, List.set_cons_zero, List.set_cons_succ])))
        refine bits_eff (by rfl) (fun K hK => ?_)
        refine gstore_op _ _ rfl rfl rfl R2.out hxp fun w3 r3 g3 => ?_
        have R3 := Lib.hid r3
        have HS3 := Lib.hid (penAt_of R3.out h2 z (by rw [at_set_ne (by omega)]; exact HZ.out))
        refine hK _ _ ?_ ?_
        · exact HS3.out
        clear hK K
        (try simp only [Act.put])
        repeat (first | (refine bits_take (v := ?_) (by rfl) ?_ ?_; rotate_left; (· intro w' hS; obtain ⟨s2, s3, s4, s5⟩ := hS; go_simp; (try (go_ints; try go_simp)); with_reducible rfl); (try simp only [Act.put, List.setIfInBounds_toArray, List.set_cons_zero, List.set_cons_succ])) | (refine bits_skip (by rfl) ?_; (try simp only [Act.put, List.setIfInBounds_toArray, List.set_cons_zero, List.set_cons_succ])))
        refine bits_tail (by rfl) (fun K hK => ?_)
        refine gstore_op _ _ rfl rfl rfl R3.out h2 fun w4 r4 g4 => ?_
        refine hK _ _ ?_
        clear hK K
        (try simp only [Act.put])
        repeat (first | (refine bits_take (v := ?_) (by rfl) ?_ ?_; rotate_left; (· intro w' hS; obtain ⟨s2, s3, s4, s5⟩ := hS; go_simp; (try (go_ints; try go_simp)); with_reducible rfl); (try simp only [Act.put, List.setIfInBounds_toArray, List.set_cons_zero, List.set_cons_succ])) | (refine bits_skip (by rfl) ?_; (try simp only [Act.put, List.setIfInBounds_toArray, List.set_cons_zero, List.set_cons_succ])))
        refine bits_nil ?_
        have HG : Hid (w.grownBy w4 (some g)) := grown_trans (grown_trans (grown_trans (grown_trans (grown_drew w _) (grown_of_below b1 _)) (grown_of_below b2 _)) g3) g4
        have HC : Hid (cutP xs x = (xs.set (x - 1) (blank z.b)).set x (blank z.b)) := by
          unfold cutP
          rw [HZ.out, if_pos ⟨h1, h2, eq_of_beq h3⟩]
          rfl
        go_end0
        exact ⟨rfl, by rw [HC.out]; exact r4, HG.out⟩
      | false =>
        have HC : Hid (cutP xs x = xs) := if_neg (fun k => by have := k.2.2; rw [HZ.out] at this; rw [this] at h3; cases h3)
        go_enter Tryd.func49, Tryd.ntmps49
        go_wp2_with fail
        go_end0
        exact ⟨rfl, by rw [HC.out]; exact HR.out, turn_refl w _⟩
    · have hd2 : decide (x < xs.length) = false := decide_eq_false h2
      have HC : Hid (cutP xs x = xs) := if_neg (fun k => h2 k.2.1)
      clear h2
      go_enter Tryd.func49, Tryd.ntmps49
      go_wp2_with fail
      go_end0
      exact ⟨rfl, by rw [HC.out]; exact HR.out, turn_refl w _⟩
  · obtain rfl : x = 0 := by omega
    have HC : Hid (cutP xs 0 = xs) := if_neg (fun k => absurd k.1 (by omega))
    go_enter Tryd.func49, Tryd.ntmps49
    go_wp2_with fail
    go_end0
    exact ⟨rfl, by rw [HC.out]; exact HR.out, turn_refl w _⟩
end Go.Proofs.YtlhcehealjdbdaaDoor
/- A copy to work on. -/
namespace Go.Proofs.YtlhcehealjdbdaaDoor
open Go.RowKit
attribute [local go_sem] alloc_drewN setCell_drewN


def OwnPost (t : Bool) (xs : List Glyph) (w : World) (e : Ending) (w' : World) : Prop := ∃ v', e = .returned (.tuple #[v', .bool t]) ∧ CRow w' w.heap.size v' (if t = true then xs else []) ∧ Below w.heap.size w w'
set_option maxHeartbeats 1000000 in
theorem own_any (a : Option Addr) (n c : Nat) (f b d l : Int) (xs : List Glyph) (w : World) (hl : Cells w a n xs) (ht : Tabs w) : Calls Tryd.prog 48 #[.slice a n c, .agg #[.int .u32 f, .int .u32 b, .int .u8 d, .int .u16 l]] w (OwnPost (rowMay xs && penMay f b) xs w) := by
  obtain rfl := hl.1
  have HL := Lib.hid hl
  have HT := Lib.hid ht
  have B0 : Hid (Below w.heap.size w (w.alloc (.cells #[.int .u32 f, .int .u32 b, .int .u8 d, .int .u16 l] 26))) := (Below.refl _ _).alloc (Nat.le_refl _) _
  have hob := Own.new w 26 #[.int .u32 f, .int .u32 b, .int .u8 d, .int .u16 l]
  have hlt : w.heap.size < (w.alloc (.cells #[.int .u32 f, .int .u32 b, .int .u8 d, .int .u16 l] 26)).heap.size := by simp
  clear hl ht
  obtain ⟨rb, hrb⟩ : ∃ rb, rowMay xs = rb := ⟨_, rfl⟩
  obtain ⟨pb, hpb⟩ : ∃ pb, penMay f b = pb := ⟨_, rfl⟩
  rw [hrb, hpb]
  have HRB := Lib.hid hrb
  have HPB := Lib.hid hpb
  clear hpb
  go_enter Tryd.func48, Tryd.ntmps48
  go_wp2_with fail
  refine (RVal.as (row_any a xs.length c xs _ (HL.out.below B0.out) (HT.out.below B0.out)) (congrArg Value.bool HRB.out)).mono ?_
  rintro e w1 ⟨rfl, b1⟩
  have B1 : Hid (Below w.heap.size w w1) := B0.out.trans (b1.mono B0.out.size)
  have ho1 := hob.below b1 hlt
  have e0 := Own.cell ho1 0
  have e1 := Own.cell ho1 1
  have e2 := Own.cell ho1 2
  have e3 := Own.cell ho1 3
  simp only [List.getElem?_toArray, List.getElem?_cons_zero, List.getElem?_cons_succ] at e0 e1 e2 e3
  clear ho1 hob b1
  cases rb with
  | false =>
    go_wp2_with fail
    go_ret2
    exact ⟨_, rfl, CRow.nil _ _, B1.out⟩
  | true =>
    have hn8 : xs.length ≤ 1000000 := by have := (row_iff.1 hrb).2.1; omega
    go_wp2_with fail
    refine (RVal.as (pen_any f b d l _) (congrArg Value.bool HPB.out)).mono ?_
    rintro e w2 ⟨rfl, b2⟩
    have B2 : Hid (Below w.heap.size w w2) := B1.out.trans (b2.mono B1.out.size)
    clear b2
    cases pb with
    | false =>
      go_wp2_with fail
      go_ret2
      exact ⟨_, rfl, CRow.nil _ _, B2.out⟩
    | true =>
      go_wp2_with fail
      refine (gclone_any a xs.length c xs _ (HL.out.below B2.out) hn8).mono ?_
      rintro e w3 ⟨v3, rfl, r3, b3⟩
      have R3 := Lib.hid (r3.up B2.out.size)
      have B3 : Hid (Below w.heap.size w w3) := B2.out.trans (b3.mono B2.out.size)
      clear r3 b3
      go_wp2_with fail
      go_ret2
      exact ⟨_, rfl, R3.out, B3.out⟩
end Go.Proofs.YtlhcehealjdbdaaDoor
/- A rune put at a place. -/
namespace Go.Proofs.YtlhcehealjdbdaaDoor
open Go.RowKit
attribute [local go_sem] alloc_drewN setCell_drewN


/-- The pen's values with a rune and a width. -/
noncomputable def putP (xs : List Glyph) (x r f b d l : Int) : List Glyph :=
  if (rowMay xs && penMay f b) = true then
    if x < 0 ∨ width r = 0 ∨ (xs.length : Int) - width r < x then xs
    else if width r = 2 then ((cutP (cutP xs x.toNat) (x.toNat + 2)).set x.toNat ⟨r, 1, f, b, d, l⟩).set (x.toNat + 1) ⟨0, 2, f, b, d, l⟩
    else (cutP (cutP xs x.toNat) (x.toNat + 1)).set x.toNat ⟨r, 0, f, b, d, l⟩
  else []
def InkAt (w : World) (g : Nat) (f b d l : Int) : Prop := w.cell? ⟨g, 0, none⟩ = some (.int .u32 f) ∧ w.cell? ⟨g, 1, none⟩ = some (.int .u32 b) ∧ w.cell? ⟨g, 2, none⟩ = some (.int .u8 d) ∧ w.cell? ⟨g, 3, none⟩ = some (.int .u16 l)
theorem ink_of {w : World} {g : Nat} {f b d l : Int} (h : Own w g 26 #[.int .u32 f, .int .u32 b, .int .u8 d, .int .u16 l]) : InkAt w g f b d l := ⟨h.cell 0, h.cell 1, h.cell 2, h.cell 3⟩
theorem cut_as (base g n c x : Nat) (xs : List Glyph) (w : World) (hr : CRow w base (.slice (some ⟨g, 0, none⟩) n c) xs) (hn : n ≤ 80) (hx : x ≤ 80) {X : Int} (hX : (x : Int) = X) : Calls Tryd.prog 49 #[.slice (some ⟨g, 0, none⟩) n c, .int .i64 X] w (CutPost base (.slice (some ⟨g, 0, none⟩) n c) (cutP xs x) g w) := by
  subst hX
  exact cut_any base g n c x xs w hr hn hx
theorem cutP_len (xs : List Glyph) (x : Nat) : (cutP xs x).length = xs.length := by unfold cutP; split <;> simp
set_option maxRecDepth 10000 in
set_option maxHeartbeats 2000000 in
theorem put_any (a : Option Addr) (n c : Nat) (x r f b d l : Int) (xs : List Glyph) (w : World) (hl : Cells w a n xs) (ht : Tabs w) : Calls Tryd.prog 44 #[.slice a n c, .int .i64 x, .int .i32 r, .agg #[.int .u32 f, .int .u32 b, .int .u8 d, .int .u16 l]] w (GPost (putP xs x r f b d l) w) := by
  obtain rfl := hl.1
  have HL := Lib.hid hl
  have HT := Lib.hid ht
  clear hl ht
  obtain ⟨ok, hok⟩ : ∃ ok, (rowMay xs && penMay f b) = ok := ⟨_, rfl⟩
  have HOK := Lib.hid hok
  have B0 : Hid (Below w.heap.size w (w.alloc (.cells #[.int .u32 f, .int .u32 b, .int .u8 d, .int .u16 l] 26))) := (Below.refl _ _).alloc (Nat.le_refl _) _
  have P0 : Hid (Own (w.alloc (.cells #[.int .u32 f, .int .u32 b, .int .u8 d, .int .u16 l] 26)) w.heap.size 26 #[.int .u32 f, .int .u32 b, .int .u8 d, .int .u16 l]) := Own.new w 26 _
  have hlt : w.heap.size < (w.alloc (.cells #[.int .u32 f, .int .u32 b, .int .u8 d, .int .u16 l] 26)).heap.size := by simp
  go_enter Tryd.func44, Tryd.ntmps44
  go_wp2_with fail
  generalize w.alloc (.cells #[.int .u32 f, .int .u32 b, .int .u8 d, .int .u16 l] 26) = w0 at B0 P0 hlt ⊢
  have HO := own_any a xs.length c f b d l xs w0 (HL.out.below B0.out) (HT.out.below B0.out)
  rw [HOK.out] at HO
  refine HO.mono ?_
  clear HO
  rintro e w1 ⟨v1, rfl, r1, b1⟩
  have B1 : Hid (Below w.heap.size w w1) := B0.out.trans (b1.mono B0.out.size)
  have P1 : Hid (Own w1 w.heap.size 26 #[.int .u32 f, .int .u32 b, .int .u8 d, .int .u16 l]) := P0.out.below b1 hlt
  have hz1 : w0.heap.size ≤ w1.heap.size := b1.size
  clear b1
  cases ok with
  | false =>
    have HF : Hid (putP xs x r f b d l = []) := by unfold putP; rw [hok]; rfl
    have R1 : Hid (CRow w1 w.heap.size v1 []) := CRow.up r1 B0.out.size
    clear r1 hok
    go_wp2_with fail
    refine (width_any r _ (HT.out.below B1.out)).mono ?_
    rintro e w2 ⟨rfl, b2⟩
    have R2 := Lib.hid (R1.out.below b2)
    have B2 : Hid (Below w.heap.size w w2) := B1.out.trans (b2.mono B1.out.size)
    clear b2
    go_wp2_with fail
    go_ret
    exact ⟨_, rfl, by rw [HF.out]; exact R2.out, B2.out⟩
  | true =>
    obtain ⟨ga, gc, rfl, _⟩ := (show CRow w1 w0.heap.size v1 xs from r1).cells
    have R1 : Hid (CRow w1 w0.heap.size (.slice ga xs.length gc) xs) := r1
    have hn8 := (row_iff.1 (Bool.and_eq_true_iff.1 hok).1).2.1
    have hn1 := (row_iff.1 (Bool.and_eq_true_iff.1 hok).1).1
    clear r1
    go_wp2_with fail
    refine (width_any r _ (HT.out.below B1.out)).mono ?_
    rintro e w2 ⟨rfl, b2⟩
    have R2 := Lib.hid (R1.out.below b2)
    have B2 : Hid (Below w.heap.size w w2) := B1.out.trans (b2.mono B1.out.size)
    have P2 : Hid (Own w2 w.heap.size 26 #[.int .u32 f, .int .u32 b, .int .u8 d, .int .u16 l]) := P1.out.below b2 (by omega)
    have hz2 : w0.heap.size ≤ w2.heap.size := Nat.le_trans hz1 b2.size
    obtain ⟨wd, hwd⟩ : ∃ wd, width r = wd := ⟨_, rfl⟩
    have HWD := Lib.hid hwd
    have hwo := width_or r
    rw [hwd] at hwo ⊢
    have HSAME : Hid ((x < 0 ∨ width r = 0 ∨ (xs.length : Int) - width r < x) → putP xs x r f b d l = xs) := fun h => by unfold putP; rw [hok, if_pos rfl, if_pos h]
    have HOKT := Lib.hid hok
    clear b2 hok hwd
    cases hx0 : decide (x < 0) with
    | true =>
      have HF := Lib.hid (HSAME.out (.inl (of_decide_eq_true hx0)))
      go_wp2_with fail
      go_ret
      exact ⟨_, rfl, by rw [HF.out]; exact R2.out.up B0.out.size, B2.out⟩
    | false =>
      cases hw0 : (wd == 0) with
      | true =>
        have HF := Lib.hid (HSAME.out (.inr (.inl (HWD.out.trans (eq_of_beq hw0)))))
        go_wp2_with fail
        go_ret
        exact ⟨_, rfl, by rw [HF.out]; exact R2.out.up B0.out.size, B2.out⟩
      | false =>
        cases hxw : decide ((xs.length : Int) - wd < x) with
        | true =>
          have HF := Lib.hid (HSAME.out (.inr (.inr (by rw [HWD.out]; exact of_decide_eq_true hxw))))
          go_wp2_with fail
          go_ret
          exact ⟨_, rfl, by rw [HF.out]; exact R2.out.up B0.out.size, B2.out⟩
        | false =>
          have q0 := of_decide_eq_false hx0
          have q1 := of_decide_eq_false hxw
          have q2 : wd ≠ 0 := by rintro rfl; cases hw0
          obtain ⟨k, rfl⟩ : ∃ k : Nat, x = k := ⟨x.toNat, by omega⟩
          have hkn : k < xs.length := by omega
          obtain ⟨g, rfl⟩ := crow_addr R2.out (by omega)
          have hbg : w0.heap.size ≤ g := (crow_at R2.out hkn).2.1
          have hne : some w.heap.size ≠ some g := fun e => by injection e with e; omega
          go_wp2_with fail
          refine (cut_any w0.heap.size g xs.length gc k xs _ R2.out hn8 (by omega)).mono ?_
          rintro e w3 ⟨rfl, r3, g3⟩
          have R3 := Lib.hid r3
          have B3 : Hid (Below w.heap.size w w3) := below_grown B2.out g3 (by omega) B2.out.size
          have P3 : Hid (Own w3 w.heap.size 26 #[.int .u32 f, .int .u32 b, .int .u8 d, .int .u16 l]) := P2.out.grown g3 hne
          have hz3 : w0.heap.size ≤ w3.heap.size := Nat.le_trans hz2 g3.size
          clear r3 g3
          rcases (by omega : wd = 1 ∨ wd = 2) with rfl | rfl
          · go_wp2_with fail
            refine (cut_as w0.heap.size g xs.length gc (k + 1) (cutP xs k) _ R3.out hn8 (by omega) (by rw [Int.natCast_add]; rfl)).mono ?_
            rintro e w4 ⟨rfl, r4, g4⟩
            obtain ⟨Y, hY⟩ : ∃ Y, cutP (cutP xs k) (k + 1) = Y := ⟨_, rfl⟩
            rw [hY] at r4
            have HY := Lib.hid hY
            have R4 := Lib.hid r4
            have B4 : Hid (Below w.heap.size w w4) := below_grown B3.out g4 (by omega) B3.out.size
            have P4 : Hid (Own w4 w.heap.size 26 #[.int .u32 f, .int .u32 b, .int .u8 d, .int .u16 l]) := P3.out.grown g4 hne
            have hz4 : w0.heap.size ≤ w4.heap.size := Nat.le_trans hz3 g4.size
            have e0 := Own.cell P4.out 0
            have e1 := Own.cell P4.out 1
            have e2 := Own.cell P4.out 2
            have e3 := Own.cell P4.out 3
            simp only [List.getElem?_toArray, List.getElem?_cons_zero, List.getElem?_cons_succ] at e0 e1 e2 e3
            clear r4 g4 hY
            go_wp2_with (first
              | (refine gstore_list rfl _ _ rfl (d := ⟨r, 0, f, b, d, l⟩) rfl rfl R4.out hkn ?_; intro w5 r5 g5; have R5 := Lib.hid r5; have B5 : Hid (Below w.heap.size w w5) := below_grown B4.out g5 (by omega) B4.out.size; have P5 : Hid (Own w5 w.heap.size 26 #[.int .u32 f, .int .u32 b, .int .u8 d, .int .u16 l]) := P4.out.grown g5 hne; have hz5 : w0.heap.size ≤ w5.heap.size := Nat.le_trans hz4 g5.size; clear r5 g5 e0 e1 e2 e3)
              | go_in)
            have HF : Hid (putP xs k r f b d l = Y.set k ⟨r, 0, f, b, d, l⟩) := by
              unfold putP
              rw [HOKT.out, if_pos rfl, if_neg (by rw [HWD.out]; omega), if_neg (by rw [HWD.out]; omega), Int.toNat_natCast, HY.out]
              rfl
            go_ret
            exact ⟨_, rfl, by rw [HF.out]; exact R5.out.up B0.out.size, B5.out⟩
          · go_wp2_with fail
            refine (cut_as w0.heap.size g xs.length gc (k + 2) (cutP xs k) _ R3.out hn8 (by omega) (by rw [Int.natCast_add]; rfl)).mono ?_
            rintro e w4 ⟨rfl, r4, g4⟩
            obtain ⟨Y, hY⟩ : ∃ Y, cutP (cutP xs k) (k + 2) = Y := ⟨_, rfl⟩
            rw [hY] at r4
            have HY := Lib.hid hY
            have R4 := Lib.hid r4
            have B4 : Hid (Below w.heap.size w w4) := below_grown B3.out g4 (by omega) B3.out.size
            have P4 : Hid (Own w4 w.heap.size 26 #[.int .u32 f, .int .u32 b, .int .u8 d, .int .u16 l]) := P3.out.grown g4 hne
            have hz4 : w0.heap.size ≤ w4.heap.size := Nat.le_trans hz3 g4.size
            have e0 := Own.cell P4.out 0
            have e1 := Own.cell P4.out 1
            have e2 := Own.cell P4.out 2
            have e3 := Own.cell P4.out 3
            simp only [List.getElem?_toArray, List.getElem?_cons_zero, List.getElem?_cons_succ] at e0 e1 e2 e3
            clear r4 g4 hY
            go_wp2_with (first
              | (refine gstore_list rfl _ _ rfl (d := ⟨r, 0, f, b, d, l⟩) rfl rfl R4.out hkn ?_; intro w5 r5 g5; have R5 := Lib.hid r5; have B5 : Hid (Below w.heap.size w w5) := below_grown B4.out g5 (by omega) B4.out.size; have P5 : Hid (Own w5 w.heap.size 26 #[.int .u32 f, .int .u32 b, .int .u8 d, .int .u16 l]) := P4.out.grown g5 hne; have hz5 : w0.heap.size ≤ w5.heap.size := Nat.le_trans hz4 g5.size; clear r5 g5 e0 e1 e2 e3)
              | go_in)
            have HF : Hid (putP xs k r f b d l = (Y.set k ⟨r, 1, f, b, d, l⟩).set (k + 1) ⟨0, 2, f, b, d, l⟩) := by
              unfold putP
              rw [HOKT.out, if_pos rfl, if_neg (by rw [HWD.out]; omega), if_pos (by rw [HWD.out]), Int.toNat_natCast, HY.out]
              rfl
            have hYl : Y.length = xs.length := by rw [← HY.out, cutP_len, cutP_len]
            have hk1 : k + 1 < xs.length := by omega
            have hix0 : (0 : Int) ≤ (k : Int) + 1 := by omega
            have hix1 : (k : Int) + 1 < xs.length := by omega
            have HS0 : Hid (InkAt w5.drew w.heap.size f b d l) := ink_of P5.out
            have R5D : Hid (CRow w5.drew w0.heap.size (.slice (some ⟨g, 0, none⟩) xs.length gc) (Y.set k ⟨r, 0, f, b, d, l⟩)) := R5.out
            have hset : List.getD (Y.set k (⟨r, 0, f, b, d, l⟩ : Glyph)) k g0 = ⟨r, 0, f, b, d, l⟩ := set_getD (by omega)
            have HYL := Lib.hid hYl
            have HSET := Lib.hid hset
            clear hYl hset
            refine wp_region_bits_at (S := fun w' => InkAt w' w.heap.size f b d l) [(0, true), (1, true), (2, true), (3, true), (4, true), (5, true), (6, true), (7, true), (8, true), (9, false), (10, true), (11, false)] [11] (by kernel_rfl) (by kernel_rfl) (fun c a d v w h => by cases d <;> exact h) HS0.out ?_
            simp only [bits_, bitOf, List.getElem?_cons_zero, List.getElem?_cons_succ, List.contains_nil, List.contains_cons, Nat.reduceBEq, Bool.or_false]
            repeat (first | (refine bits_take (v := ?_) (by rfl) ?_ ?_; rotate_left; (· intro w' hS; obtain ⟨s0, s1, s2, s3⟩ := hS; go_simp; (try (go_ints; try go_simp)); with_reducible rfl); (try simp only [Act.put, List.setIfInBounds_toArray, List.set_cons_zero, List.set_cons_succ])) | (refine bits_skip (by rfl) ?_; (try simp only [Act.put, List.setIfInBounds_toArray, List.set_cons_zero, List.set_cons_succ])))
            refine bits_eff (by rfl) (fun K hK => ?_)
            refine gwide_op _ _ rfl rfl rfl R5D.out hkn HSET.out fun w6 r6 g6' => ?_
            rw [List.set_set] at r6
            have R6 := Lib.hid r6
            have g6 := Lib.hid g6'
            clear r6 g6'
            refine hK _ _ ?_ ?_
            · exact ink_of ((P5.out.draws 1).grown g6.out hne)
            clear hK K
            (try simp only [Act.put])
            repeat (first | (refine bits_take (v := ?_) (by rfl) ?_ ?_; rotate_left; (· intro w' hS; obtain ⟨s0, s1, s2, s3⟩ := hS; go_simp; (try (go_ints; try go_simp)); with_reducible rfl); (try simp only [Act.put, List.setIfInBounds_toArray, List.set_cons_zero, List.set_cons_succ])) | (refine bits_skip (by rfl) ?_; (try simp only [Act.put, List.setIfInBounds_toArray, List.set_cons_zero, List.set_cons_succ])))
            refine bits_tail (by rfl) (fun K hK => ?_)
            refine gstore_op _ _ rfl (k := k + 1) (d := ⟨0, 2, f, b, d, l⟩) rfl rfl R6.out hk1 fun w7 r7 g7' => ?_
            have R7 := Lib.hid r7
            have g7 := Lib.hid g7'
            clear r7 g7'
            refine hK _ _ ?_
            clear hK K
            (try simp only [Act.put])
            repeat (first | (refine bits_take (v := ?_) (by rfl) ?_ ?_; rotate_left; (· intro w' hS; obtain ⟨s0, s1, s2, s3⟩ := hS; go_simp; (try (go_ints; try go_simp)); with_reducible rfl); (try simp only [Act.put, List.setIfInBounds_toArray, List.set_cons_zero, List.set_cons_succ])) | (refine bits_skip (by rfl) ?_; (try simp only [Act.put, List.setIfInBounds_toArray, List.set_cons_zero, List.set_cons_succ])))
            refine bits_nil ?_
            have R7X : Hid (CRow w7 w0.heap.size (.slice (some ⟨g, 0, none⟩) xs.length gc) (putP xs k r f b d l)) := by rw [HF.out]; exact R7.out
            have B7 : Hid (Below w.heap.size w w7) := below_grown (below_grown (below_drewN B5.out 1) g6.out (by omega) (by have := B5.out.size; exact this)) g7.out (by omega) (Nat.le_trans B5.out.size g6.out.size)
            go_wp2_with fail
            go_ret
            exact ⟨_, rfl, R7X.out.up B0.out.size, B7.out⟩
end Go.Proofs.YtlhcehealjdbdaaDoor
/- Blanks from a place up to another one. -/
namespace Go.Proofs.YtlhcehealjdbdaaDoor
open Go.RowKit
set_option linter.unusedSimpArgs false
set_option linter.unusedVariables false
attribute [local go_sem] alloc_drewN setCell_drewN


/-- k cells from a on are d. -/
def fillP (ys : List Glyph) (a : Nat) (d : Glyph) : Nat → List Glyph
  | 0 => ys
  | k + 1 => (fillP ys a d k).set (a + k) d
theorem fillP_len (ys : List Glyph) (a : Nat) (d : Glyph) : ∀ k, (fillP ys a d k).length = ys.length
  | 0 => rfl
  | k + 1 => by rw [fillP, List.length_set, fillP_len ys a d k]
/-- The fill's loop: k blanks are laid. -/
def FillRel (w : World) (base g n c : Nat) (ys : List Glyph) (S : Nat) (b f d l : Int) (k : Nat) (wr : World) : Prop :=
  CRow wr base (.slice (some ⟨g, 0, none⟩) n c) (fillP ys S (blank b) k) ∧ Own wr w.heap.size 26 #[.int .u32 f, .int .u32 b, .int .u8 d, .int .u16 l] ∧ Below w.heap.size w wr ∧ base ≤ wr.heap.size
theorem FillRel.below {w : World} {base g n c : Nat} {ys : List Glyph} {S : Nat} {b f d l : Int} {k : Nat} {w1 w2 : World} (h : FillRel w base g n c ys S b f d l k w1) (hb : Below w1.heap.size w1 w2) (hz : w.heap.size ≤ w1.heap.size) (hlt : w.heap.size < w1.heap.size) : FillRel w base g n c ys S b f d l k w2 :=
  ⟨h.1.below hb, h.2.1.below hb hlt, h.2.2.1.trans (hb.mono hz), Nat.le_trans h.2.2.2 hb.size⟩
theorem FillRel.next {w : World} {base g n c : Nat} {ys : List Glyph} {S : Nat} {b f d l : Int} {q : Nat} {w1 w2 : World} (h : FillRel w base g n c ys S b f d l (q - S) w1) (hq : S ≤ q) (hr : CRow w2 base (.slice (some ⟨g, 0, none⟩) n c) ((fillP ys S (blank b) (q - S)).set q (blank b))) (hg : w1.grownBy w2 (some g)) (hne : some w.heap.size ≠ some g) (hbg : w.heap.size ≤ g) : FillRel w base g n c ys S b f d l (q + 1 - S) w2 := by
  have e : q + 1 - S = (q - S) + 1 := by omega
  refine ⟨?_, h.2.1.grown hg hne, below_grown h.2.2.1 hg hbg h.2.2.1.size, Nat.le_trans h.2.2.2 hg.size⟩
  rw [e, fillP, Nat.add_sub_cancel' hq]
  exact hr
theorem FillRel.next1 {w : World} {base g n c : Nat} {ys : List Glyph} {S : Nat} {b f d l : Int} {q : Nat} {w1 w2 : World} (h : FillRel w base g n c ys S b f d l q w1) (hr : CRow w2 base (.slice (some ⟨g, 0, none⟩) n c) ((fillP ys S (blank b) q).set (S + q) (blank b))) (hg : w1.grownBy w2 (some g)) (hne : some w.heap.size ≠ some g) (hbg : w.heap.size ≤ g) : FillRel w base g n c ys S b f d l (q + 1) w2 :=
  ⟨hr, h.2.1.grown hg hne, below_grown h.2.2.1 hg hbg h.2.2.1.size, Nat.le_trans h.2.2.2 hg.size⟩
noncomputable def eraseP (xs : List Glyph) (s t : Int) (f b : Int) : List Glyph :=
  if (rowMay xs && penMay f b) = true then
    if min t xs.length ≤ max 0 s then xs
    else fillP (cutP (cutP xs (max 0 s).toNat) (min t xs.length).toNat) (max 0 s).toNat (blank b) ((min t xs.length).toNat - (max 0 s).toNat)
  else []
set_option maxRecDepth 10000 in
set_option maxHeartbeats 2000000 in
theorem erase_any (a : Option Addr) (n c : Nat) (s t f b d l : Int) (xs : List Glyph) (w : World) (hl : Cells w a n xs) (ht : Tabs w) : Calls Tryd.prog 50 #[.slice a n c, .int .i64 s, .int .i64 t, .agg #[.int .u32 f, .int .u32 b, .int .u8 d, .int .u16 l]] w (GPost (eraseP xs s t f b) w) := by
  obtain rfl := hl.1
  have HL := Lib.hid hl
  have HT := Lib.hid ht
  clear hl ht
  obtain ⟨ok, hok⟩ : ∃ ok, (rowMay xs && penMay f b) = ok := ⟨_, rfl⟩
  have HOK := Lib.hid hok
  have B0 : Hid (Below w.heap.size w (w.alloc (.cells #[.int .u32 f, .int .u32 b, .int .u8 d, .int .u16 l] 26))) := (Below.refl _ _).alloc (Nat.le_refl _) _
  have P0 : Hid (Own (w.alloc (.cells #[.int .u32 f, .int .u32 b, .int .u8 d, .int .u16 l] 26)) w.heap.size 26 #[.int .u32 f, .int .u32 b, .int .u8 d, .int .u16 l]) := Own.new w 26 _
  have hlt : w.heap.size < (w.alloc (.cells #[.int .u32 f, .int .u32 b, .int .u8 d, .int .u16 l] 26)).heap.size := by simp
  go_enter Tryd.func50, Tryd.ntmps50
  go_wp2_with fail
  generalize w.alloc (.cells #[.int .u32 f, .int .u32 b, .int .u8 d, .int .u16 l] 26) = w0 at B0 P0 hlt ⊢
  have HO := own_any a xs.length c f b d l xs w0 (HL.out.below B0.out) (HT.out.below B0.out)
  rw [HOK.out] at HO
  refine HO.mono ?_
  clear HO
  rintro e w1 ⟨v1, rfl, r1, b1⟩
  have B1 : Hid (Below w.heap.size w w1) := B0.out.trans (b1.mono B0.out.size)
  have P1 : Hid (Own w1 w.heap.size 26 #[.int .u32 f, .int .u32 b, .int .u8 d, .int .u16 l]) := P0.out.below b1 hlt
  have hz1 : w0.heap.size ≤ w1.heap.size := b1.size
  clear b1
  cases ok with
  | false =>
    have HF : Hid (eraseP xs s t f b = []) := by unfold eraseP; rw [hok]; rfl
    have R1 : Hid (CRow w1 w.heap.size v1 []) := CRow.up r1 B0.out.size
    clear r1 hok
    obtain ⟨na, nc, rfl, _⟩ := R1.out.cells
    obtain ⟨S, hS⟩ : ∃ S : Nat, max 0 s = S := ⟨(max 0 s).toNat, by omega⟩
    obtain ⟨T', hT'⟩ : ∃ T' : Int, min t 0 = T' := ⟨_, rfl⟩
    have HS := Lib.hid hS
    have HT' := Lib.hid hT'
    clear hS hT'
    go_upto_region 2 with fail
    go_cut [1, 2] (fun v1 v2 wc => v1 = .int .i64 S ∧ v2 = .int .i64 T' ∧ w1 = wc)
    case first =>
      have hS := HS.out
      have hT' := HT'.out
      go_wp2_with fail
      all_goals (go_meet; exact ⟨congrArg (Value.int .i64) (by omega), congrArg (Value.int .i64) (by simp at *; omega), rfl⟩)
    case rest =>
      obtain ⟨rfl, rfl, rfl⟩ := hcut
      go_wp2_with fail
      go_ret
      exact ⟨_, rfl, by rw [HF.out]; exact R1.out, B1.out⟩
  | true =>
    obtain ⟨ga, gc, rfl, _⟩ := (show CRow w1 w0.heap.size v1 xs from r1).cells
    have R1 : Hid (CRow w1 w0.heap.size (.slice ga xs.length gc) xs) := r1
    have hn8 := (row_iff.1 (Bool.and_eq_true_iff.1 hok).1).2.1
    have hn1 := (row_iff.1 (Bool.and_eq_true_iff.1 hok).1).1
    clear r1
    obtain ⟨S, hS⟩ : ∃ S : Nat, max 0 s = S := ⟨(max 0 s).toNat, by omega⟩
    obtain ⟨T', hT'⟩ : ∃ T' : Int, min t xs.length = T' := ⟨_, rfl⟩
    have HS := Lib.hid hS
    have HT' := Lib.hid hT'
    clear hS hT'
    go_upto_region 2 with fail
    go_cut [1, 2] (fun v1 v2 wc => v1 = .int .i64 S ∧ v2 = .int .i64 T' ∧ w1 = wc)
    case first =>
      have hS := HS.out
      have hT' := HT'.out
      go_wp2_with fail
      all_goals (go_meet; exact ⟨congrArg (Value.int .i64) (by omega), congrArg (Value.int .i64) (by omega), rfl⟩)
    case rest =>
      obtain ⟨rfl, rfl, rfl⟩ := hcut
      by_cases hge : T' ≤ S
      · have HF : Hid (eraseP xs s t f b = xs) := by unfold eraseP; rw [hok, if_pos rfl, if_pos (by rw [HS.out, HT'.out]; exact hge)]; rfl
        have hd : decide (T' ≤ (S : Int)) = true := decide_eq_true hge
        clear hge hok
        go_wp2_with fail
        go_ret
        exact ⟨_, rfl, by rw [HF.out]; exact R1.out.up B0.out.size, B1.out⟩
      · have hTn : T' ≤ xs.length := by have := HT'.out; omega
        obtain ⟨T, rfl⟩ : ∃ T : Nat, T' = T := ⟨T'.toNat, by omega⟩
        have HF : Hid (eraseP xs s t f b = fillP (cutP (cutP xs S) T) S (blank b) (T - S)) := by unfold eraseP; rw [hok, if_pos rfl, if_neg (by rw [HS.out, HT'.out]; exact hge), HS.out, HT'.out]; rfl
        have hST : S < T := by omega
        have hTn' : T ≤ xs.length := by omega
        obtain ⟨g, rfl⟩ := crow_addr R1.out (by omega)
        have hbg : w0.heap.size ≤ g := (crow_at R1.out (k := 0) (by omega)).2.1
        have hne : some w.heap.size ≠ some g := fun e => by injection e with e; omega
        have HOKT := Lib.hid hok
        clear hge hok hTn
        go_wp2_with fail
        refine (cut_as w0.heap.size g xs.length gc (S) (xs) _ R1.out hn8 (by omega) rfl).mono ?_
        rintro e w2 ⟨rfl, r2, g2⟩
        have R2 := Lib.hid r2
        have B2 : Hid (Below w.heap.size w w2) := below_grown B1.out g2 (by omega) B1.out.size
        have P2 : Hid (Own w2 w.heap.size 26 #[.int .u32 f, .int .u32 b, .int .u8 d, .int .u16 l]) := P1.out.grown g2 hne
        have hz2 : w0.heap.size ≤ w2.heap.size := Nat.le_trans hz1 g2.size
        clear r2 g2
        go_wp2_with fail
        refine (cut_as w0.heap.size g xs.length gc (T) (cutP xs S) _ R2.out hn8 (by omega) rfl).mono ?_
        rintro e w3 ⟨rfl, r3, g3⟩
        have R3 := Lib.hid r3
        have B3 : Hid (Below w.heap.size w w3) := below_grown B2.out g3 (by omega) B2.out.size
        have P3 : Hid (Own w3 w.heap.size 26 #[.int .u32 f, .int .u32 b, .int .u8 d, .int .u16 l]) := P2.out.grown g3 hne
        have hz3 : w0.heap.size ≤ w3.heap.size := Nat.le_trans hz2 g3.size
        clear r3 g3
        obtain ⟨Y, hY⟩ : ∃ Y, cutP (cutP xs S) T = Y := ⟨_, rfl⟩
        rw [hY] at R3 HF
        clear hY
        clear R2 P2 B2 hz2 R1 P1 B1 hz1
        have HL0 : Hid (FillRel w w0.heap.size g xs.length gc Y S b f d l 0 w3) := ⟨R3.out, P3.out, B3.out, hz3⟩
        clear R3 P3 B3 hz3
        go_wp2_with fail
        go_loopw [10] (fun v wr => ∃ q : Nat, S ≤ q ∧ q ≤ T ∧ v = .int .i64 q ∧ Hid (FillRel w w0.heap.size g xs.length gc Y S b f d l (q - S) wr)) (fun v _ => T - (intOf v).toNat)
        case atStart => exact ⟨S, Nat.le_refl _, by omega, rfl, by rw [Nat.sub_self]; exact HL0⟩
        case round =>
          obtain ⟨q, hq0, hq1, rfl, HR⟩ := hrel
          clear HL0
          by_cases hq : q < T
          · have hqn : q < xs.length := by omega
            have hi0 : (0 : Int) ≤ (q : Int) := by omega
            have hi1 : (q : Int) < (xs.length : Int) := by omega
            have e0 := Own.cell HR.out.2.1 0
            have e1 := Own.cell HR.out.2.1 1
            have e2 := Own.cell HR.out.2.1 2
            have e3 := Own.cell HR.out.2.1 3
            simp only [List.getElem?_toArray, List.getElem?_cons_zero, List.getElem?_cons_succ] at e0 e1 e2 e3
            go_wp2_with fail
            refine (blank_any f b d l _).mono ?_
            rintro e wx ⟨rfl, bx⟩
            have HX : Hid (FillRel w w0.heap.size g xs.length gc Y S b f d l (q - S) wx) := HR.out.below bx (by have := HR.out.2.2.2; omega) (by have := HR.out.2.2.2; omega)
            clear bx HR
            go_wp2_with (first
              | (refine gstore_list rfl _ _ rfl (d := blank b) rfl rfl HX.out.1 hqn ?_; intro wy r5 g5; have HY' : Hid (FillRel w w0.heap.size g xs.length gc Y S b f d l (q + 1 - S) wy) := HX.out.next hq0 r5 g5 hne (by omega); clear r5 g5 e0 e1 e2 e3)
              | go_in)
            go_roundw
            case rel => exact ⟨q + 1, by omega, by omega, by go_num, HY'⟩
            case measure => simp [intOf]; omega
          · obtain rfl : q = T := by omega
            clear hq
            go_wp2_with fail
            go_ret
            exact ⟨_, rfl, by rw [HF.out]; exact HR.out.1.up B0.out.size, HR.out.2.2.1⟩
end Go.Proofs.YtlhcehealjdbdaaDoor
/- A part of a row laid over another part of it. -/
namespace Go.Proofs.YtlhcehealjdbdaaDoor
open Go.RowKit
set_option linter.unusedSimpArgs false
set_option linter.unusedVariables false
attribute [local go_sem] alloc_drewN setCell_drewN


/-- m cells from s on laid at d. -/
def shiftP (xs : List Glyph) (d s m : Nat) : List Glyph := xs.take d ++ (xs.drop s).take m ++ xs.drop (d + m)
theorem shift_len {xs : List Glyph} {d s m : Nat} (hd : d + m ≤ xs.length) (hs : s + m ≤ xs.length) : (shiftP xs d s m).length = xs.length := by
  simp [shiftP]
  omega
theorem flat_take : ∀ (xs : List Glyph) (k : Nat), flat (xs.take k) = (flat xs).take (k * 6)
  | [], k => by simp [flat]
  | c :: cs, 0 => by simp [flat]
  | c :: cs, k + 1 => by
    have h6 : c.cells.length = 6 := rfl
    simp only [flat, List.take_succ_cons]
    have e : c.cells.take ((k + 1) * 6) = c.cells := List.take_of_length_le (by rw [h6]; omega)
    rw [List.take_append, h6, e, flat_take cs k, show (k + 1) * 6 - 6 = k * 6 from by omega]
theorem flat_drop : ∀ (xs : List Glyph) (k : Nat), flat (xs.drop k) = (flat xs).drop (k * 6)
  | [], k => by simp [flat]
  | c :: cs, 0 => by simp [flat]
  | c :: cs, k + 1 => by
    have h6 : c.cells.length = 6 := rfl
    simp only [flat, List.drop_succ_cons]
    have e : c.cells.drop ((k + 1) * 6) = [] := List.drop_eq_nil_of_le (by rw [h6]; omega)
    rw [List.drop_append, h6, e, flat_drop cs k, show (k + 1) * 6 - 6 = k * 6 from by omega]
    rfl
theorem crow_cap {w : World} {base : Nat} {xs : List Glyph} {a : Option Addr} {n c : Nat} (h : CRow w base (.slice a n c) xs) (h0 : 0 < n) : n ≤ c := by
  have hz := crow_len h
  rcases h.2 with ⟨h1, h2⟩ | ⟨g, cap, cur, h1, _, _, h4, _⟩
  · omega
  · injection h1 with _ _ h1
    omega
section
variable {w : World} {ops : Array Oper} {rest : List Oper} {o : Oper} {a : Act} {Q : Exit → Act → World → Prop}
theorem gshift_op {K : Act → World → Prop} (p q : Operand) (ho : o.op = .call { callee := .builtin .copy, args := #[p, q], argTypes := #[29, 29] }) {base g n c : Nat} {xs : List Glyph} (ds ss m : Nat) {dp sp : Option Addr} {dl sl dc sc : Nat}
    (hd : a.eval p = .slice dp dl dc) (hs : a.eval q = .slice sp sl sc) (hr : CRow w base (.slice (some ⟨g, 0, none⟩) n c) xs) (hm : m = Nat.min sl dl) (hdl : ds + m ≤ n) (hsl : ss + m ≤ n)
    (hdp : 0 < m → dp = some ⟨g, ds * 6, none⟩) (hsp : 0 < m → sp = some ⟨g, ss * 6, none⟩)
    (h : ∀ w', CRow w' base (.slice (some ⟨g, 0, none⟩) n c) (shiftP xs ds ss m) → w.grownBy w' (some g) → K (a.put o.dst (goInt m)) w') : Oper.wp Tryd.prog o a w K Q := by
  have hz := crow_len hr
  rcases hr.2 with ⟨h1, _⟩ | ⟨g', cap, cur, h1, h2, h3, h4, h5, h6, h7⟩
  · cases h1
  · injection h1 with h0 h1 h8
    injection h0 with h0
    injection h0 with h0
    subst h0 h8
    rw [hz] at h7 h4 h1
    have hcs : flat ((xs.drop ss).take m) = ((flat xs).drop (ss * 6)).take (m * 6) := by rw [flat_take, flat_drop]
    have hcl : (flat ((xs.drop ss).take m)).length = m * 6 := by rw [flat_len, List.length_take, List.length_drop]; congr 1; omega
    obtain ⟨tl, hcur⟩ : ∃ tl, cur.toList = flat xs ++ tl := ⟨cur.toList.drop (n * 6), by rw [← h7]; exact (List.take_append_drop _ _).symm⟩
    have hxl := flat_len xs
    refine gcopy_op p q 29 29 ho 28 6 Tryd.underlying29 gsize dp sp dl dc sl sc hd hs g (ds * 6) cur.toList 28 (by simpa using h3) (flat ((xs.drop ss).take m)) m hm hcl (fun h0 => ⟨hdp h0, _, hsp h0, fun j v hj => ?_⟩) (by rw [hcl]; simp; omega) (flat_one _) base w (Below.refl _ _) h2 (fun w' k1 _ k3 => h w' ?_ k3.out)
    · rw [hcs, List.getElem?_take] at hj
      by_cases hjm : j < m * 6
      · rw [if_pos hjm, List.getElem?_drop] at hj
        have := World.ownsRow.cells hr (g := g) rfl (ss * 6 + j) v hj
        rw [gplain_add] at this
        have e : (⟨g, ss * 6, none⟩ : Addr).add j = ⟨g, ss * 6 + j, none⟩ := by rw [Go.WideShapes.add_plain]
        rw [e]
        exact this
      · rw [if_neg hjm] at hj
        cases hj
    · have hsh := shift_len (d := ds) (s := ss) (m := m) (xs := xs) (by omega) (by omega)
      have k1' := k1.out
      refine ⟨by rw [flat_len], .inr ⟨g, c, _, by rw [hsh, hz], h2, k1', by rw [hsh, hz]; exact h4, h5, ?_, ?_⟩⟩
      · simp [splice, hcl] at h6 ⊢
        omega
      · rw [hsh, hz, hcur]
        unfold splice shiftP
        have e1 : (flat xs ++ tl).take (ds * 6) = (flat xs).take (ds * 6) := List.take_append_of_le_length (by rw [hxl]; omega)
        have e2 : (flat xs ++ tl).drop (ds * 6 + m * 6) = (flat xs).drop (ds * 6 + m * 6) ++ tl := List.drop_append_of_le_length (by rw [hxl]; omega)
        rw [hcl, e1, e2, flat_app, flat_app, flat_take xs, flat_drop xs (ds + m), show (ds + m) * 6 = ds * 6 + m * 6 from by omega]
        show List.take (n * 6) (_ ++ (_ ++ (_ ++ tl))) = _
        rw [← List.append_assoc, ← List.append_assoc]
        refine List.take_left' ?_
        simp [hcl, hxl]
        omega
end
end Go.Proofs.YtlhcehealjdbdaaDoor
/- Blanks put in at a place. -/
namespace Go.Proofs.YtlhcehealjdbdaaDoor
open Go.RowKit
set_option linter.unusedSimpArgs false
set_option linter.unusedVariables false
attribute [local go_sem] alloc_drewN setCell_drewN


noncomputable def insertP (xs : List Glyph) (x n : Int) (f b : Int) : List Glyph :=
  if (rowMay xs && penMay f b) = true then
    if x < 0 ∨ xs.length ≤ x ∨ n < 1 then xs else fillP (shiftP (cutP (cutP xs x.toNat) (xs.length - (min n (xs.length - x)).toNat)) (x.toNat + (min n (xs.length - x)).toNat) x.toNat (xs.length - (x.toNat + (min n (xs.length - x)).toNat))) x.toNat (blank b) (min n (xs.length - x)).toNat
  else []
set_option maxRecDepth 10000 in
set_option maxHeartbeats 2000000 in
theorem insert_any (a : Option Addr) (n c : Nat) (x m f b d l : Int) (xs : List Glyph) (w : World) (hl : Cells w a n xs) (ht : Tabs w) : Calls Tryd.prog 27 #[.slice a n c, .int .i64 x, .int .i64 m, .agg #[.int .u32 f, .int .u32 b, .int .u8 d, .int .u16 l]] w (GPost (insertP xs x m f b) w) := by
  obtain rfl := hl.1
  have HL := Lib.hid hl
  have HT := Lib.hid ht
  clear hl ht
  obtain ⟨ok, hok⟩ : ∃ ok, (rowMay xs && penMay f b) = ok := ⟨_, rfl⟩
  have HOK := Lib.hid hok
  have B0 : Hid (Below w.heap.size w (w.alloc (.cells #[.int .u32 f, .int .u32 b, .int .u8 d, .int .u16 l] 26))) := (Below.refl _ _).alloc (Nat.le_refl _) _
  have P0 : Hid (Own (w.alloc (.cells #[.int .u32 f, .int .u32 b, .int .u8 d, .int .u16 l] 26)) w.heap.size 26 #[.int .u32 f, .int .u32 b, .int .u8 d, .int .u16 l]) := Own.new w 26 _
  have hlt : w.heap.size < (w.alloc (.cells #[.int .u32 f, .int .u32 b, .int .u8 d, .int .u16 l] 26)).heap.size := by simp
  go_enter Tryd.func27, Tryd.ntmps27
  go_wp2_with fail
  generalize w.alloc (.cells #[.int .u32 f, .int .u32 b, .int .u8 d, .int .u16 l] 26) = w0 at B0 P0 hlt ⊢
  have HO := own_any a xs.length c f b d l xs w0 (HL.out.below B0.out) (HT.out.below B0.out)
  rw [HOK.out] at HO
  refine HO.mono ?_
  clear HO
  rintro e w1 ⟨v1, rfl, r1, b1⟩
  have B1 : Hid (Below w.heap.size w w1) := B0.out.trans (b1.mono B0.out.size)
  have P1 : Hid (Own w1 w.heap.size 26 #[.int .u32 f, .int .u32 b, .int .u8 d, .int .u16 l]) := P0.out.below b1 hlt
  have hz1 : w0.heap.size ≤ w1.heap.size := b1.size
  clear b1
  cases ok with
  | false =>
    have HF : Hid (insertP xs x m f b = []) := by unfold insertP; rw [hok]; rfl
    have R1 : Hid (CRow w1 w.heap.size v1 []) := CRow.up r1 B0.out.size
    clear r1 hok
    go_wp2_with fail
    go_ret
    exact ⟨_, rfl, by rw [HF.out]; exact R1.out, B1.out⟩
  | true =>
    obtain ⟨ga, gc, rfl, _⟩ := (show CRow w1 w0.heap.size v1 xs from r1).cells
    have R1 : Hid (CRow w1 w0.heap.size (.slice ga xs.length gc) xs) := r1
    have hn8 := (row_iff.1 (Bool.and_eq_true_iff.1 hok).1).2.1
    have hn1 := (row_iff.1 (Bool.and_eq_true_iff.1 hok).1).1
    clear r1
    have HSAME : Hid ((x < 0 ∨ xs.length ≤ x ∨ m < 1) → insertP xs x m f b = xs) := fun h => by unfold insertP; rw [hok, if_pos rfl, if_pos h]
    have HOKT := Lib.hid hok
    clear hok
    cases hx0 : decide (x < 0) with
    | true =>
      have HF := Lib.hid (HSAME.out (.inl (of_decide_eq_true hx0)))
      go_wp2_with fail
      go_ret
      exact ⟨_, rfl, by rw [HF.out]; exact R1.out.up B0.out.size, B1.out⟩
    | false =>
      cases hx1 : decide ((xs.length : Int) ≤ x) with
      | true =>
        have HF := Lib.hid (HSAME.out (.inr (.inl (of_decide_eq_true hx1))))
        go_wp2_with fail
        go_ret
        exact ⟨_, rfl, by rw [HF.out]; exact R1.out.up B0.out.size, B1.out⟩
      | false =>
        cases hm1 : decide (m < 1) with
        | true =>
          have HF := Lib.hid (HSAME.out (.inr (.inr (of_decide_eq_true hm1))))
          go_wp2_with fail
          go_ret
          exact ⟨_, rfl, by rw [HF.out]; exact R1.out.up B0.out.size, B1.out⟩
        | false =>
          have q0 := of_decide_eq_false hx0
          have q1 := of_decide_eq_false hx1
          have q2 := of_decide_eq_false hm1
          obtain ⟨k, rfl⟩ : ∃ k : Nat, x = k := ⟨x.toNat, by omega⟩
          have hkn : k < xs.length := by omega
          obtain ⟨j, hj⟩ : ∃ j : Nat, min m ((xs.length : Int) - k) = j := ⟨(min m ((xs.length : Int) - k)).toNat, by omega⟩
          have HJ := Lib.hid hj
          have hj1 : 1 ≤ j := by omega
          have hj2 : k + j ≤ xs.length := by omega
          obtain ⟨g, rfl⟩ := crow_addr R1.out (by omega)
          have hbg : w0.heap.size ≤ g := (crow_at R1.out (k := 0) (by omega)).2.1
          have hne : some w.heap.size ≠ some g := fun e => by injection e with e; omega
          clear hj
          go_upto_region 4 with fail
          go_cut [2] (fun v wc => v = .int .i64 j ∧ w1 = wc)
          case first =>
            have hj := HJ.out
            go_wp2_with fail
            all_goals (go_meet; exact ⟨congrArg (Value.int .i64) (by omega), rfl⟩)
          case rest =>
            obtain ⟨rfl, rfl⟩ := hcut
            have HF : Hid (insertP xs k m f b = fillP (shiftP (cutP (cutP xs k) (xs.length - j)) (k + j) k (xs.length - (k + j))) k (blank b) j) := by
              unfold insertP
              rw [HOKT.out, if_pos rfl, if_neg (by omega), HJ.out]
              rfl
            clear q0 q1 q2 hx0 hx1 hm1
            go_wp2_with fail
            refine (cut_as w0.heap.size g xs.length gc (k) (xs) _ R1.out hn8 (by omega) rfl).mono ?_
            rintro e w2 ⟨rfl, r2, g2⟩
            have R2 := Lib.hid r2
            have B2 : Hid (Below w.heap.size w w2) := below_grown B1.out g2 (by omega) B1.out.size
            have P2 : Hid (Own w2 w.heap.size 26 #[.int .u32 f, .int .u32 b, .int .u8 d, .int .u16 l]) := P1.out.grown g2 hne
            have hz2 : w0.heap.size ≤ w2.heap.size := Nat.le_trans hz1 g2.size
            clear r2 g2
            go_wp2_with fail
            refine (cut_as w0.heap.size g xs.length gc (xs.length - j) (cutP xs k) _ R2.out hn8 (by omega) (by omega)).mono ?_
            rintro e w3 ⟨rfl, r3, g3⟩
            have R3 := Lib.hid r3
            have B3 : Hid (Below w.heap.size w w3) := below_grown B2.out g3 (by omega) B2.out.size
            have P3 : Hid (Own w3 w.heap.size 26 #[.int .u32 f, .int .u32 b, .int .u8 d, .int .u16 l]) := P2.out.grown g3 hne
            have hz3 : w0.heap.size ≤ w3.heap.size := Nat.le_trans hz2 g3.size
            clear r3 g3
            obtain ⟨Y, hY⟩ : ∃ Y, cutP (cutP xs k) (xs.length - j) = Y := ⟨_, rfl⟩
            have hYl : Hid (Y.length = xs.length) := by rw [← hY, cutP_len, cutP_len]; rfl
            rw [hY] at R3 HF
            clear hY
            clear R2 P2 B2 hz2 R1 P1 B1 hz1
            have R3D : Hid (CRow w3.drew w0.heap.size (.slice (some ⟨g, 0, none⟩) xs.length gc) Y) := R3.out
            have hcap := crow_cap R3.out (by omega)
            have hi0 : (0 : Int) ≤ (k : Int) + j := by omega
            have hi1 : (k : Int) + j ≤ xs.length := by omega
            have hi2 : (k : Int) ≤ xs.length := by omega
            go_upto_region 7 with fail
            go_cut [2] (fun v wc => v = .int .i64 j ∧ Hid (CRow wc w0.heap.size (.slice (some ⟨g, 0, none⟩) xs.length gc) (shiftP Y (k + j) k (xs.length - (k + j))) ∧ w3.drew.grownBy wc (some g)))
            case first =>
              refine wp_region_bits_at (S := fun _ => True) [(0, true), (1, true), (2, true), (3, true), (4, true), (5, true), (6, true), (7, true), (8, false)] [8] (by kernel_rfl) (by kernel_rfl) (fun c a d v w h => by cases d <;> exact h) True.intro ?_
              simp only [bits_, bitOf, List.getElem?_cons_zero, List.getElem?_cons_succ, List.contains_nil, List.contains_cons, Nat.reduceBEq, Bool.or_false]
              repeat (first | (refine bits_take (v := ?_) (by rfl) ?_ ?_; rotate_left; (· intro w' hS; skip; go_simp; (try (go_ints; try go_simp)); with_reducible rfl); (try simp only [Act.put, List.setIfInBounds_toArray, List.set_cons_zero, List.set_cons_succ])) | (refine bits_skip (by rfl) ?_; (try simp only [Act.put, List.setIfInBounds_toArray, List.set_cons_zero, List.set_cons_succ])))
              refine bits_tail (by rfl) (fun K hK => ?_)
              refine gshift_op _ _ rfl (k + j) k (xs.length - (k + j)) rfl rfl R3D.out ?_ ?_ ?_ ?_ ?_ fun w4 r4 g4' => ?_
              · show _ = min _ _; omega
              · omega
              · omega
              · exact fun h0 => if_neg (by omega)
              · exact fun h0 => if_neg (by omega)
              have R4 := Lib.hid r4
              have g4 := Lib.hid g4'
              clear r4 g4'
              refine hK _ _ ?_
              clear hK K
              (try simp only [Act.put])
              repeat (first | (refine bits_take (v := ?_) (by rfl) ?_ ?_; rotate_left; (· intro w' hS; skip; go_simp; (try (go_ints; try go_simp)); with_reducible rfl); (try simp only [Act.put, List.setIfInBounds_toArray, List.set_cons_zero, List.set_cons_succ])) | (refine bits_skip (by rfl) ?_; (try simp only [Act.put, List.setIfInBounds_toArray, List.set_cons_zero, List.set_cons_succ])))
              refine bits_nil ?_
              (try simp only [Act.put, List.setIfInBounds_toArray, List.set_cons_zero, List.set_cons_succ])
              refine Met.intro ?_
              go_step
              go_meet
              exact ⟨rfl, R4.out, g4.out⟩
            case rest =>
              obtain ⟨rfl, H4⟩ := hcut
              obtain ⟨Rc, g4⟩ : Hid (CRow wc w0.heap.size (.slice (some ⟨g, 0, none⟩) xs.length gc) (shiftP Y (k + j) k (xs.length - (k + j)))) ∧ Hid (w3.drew.grownBy wc (some g)) := ⟨H4.out.1, H4.out.2⟩
              have Pc : Hid (Own wc w.heap.size 26 #[.int .u32 f, .int .u32 b, .int .u8 d, .int .u16 l]) := (P3.out.draws 1).grown g4.out hne
              have Bc : Hid (Below w.heap.size w wc) := below_grown (below_drewN B3.out 1) g4.out (by omega) (by have := B3.out.size; exact this)
              have hzc : w0.heap.size ≤ wc.heap.size := Nat.le_trans hz3 g4.out.size
              obtain ⟨Z, hZ⟩ : ∃ Z, shiftP Y (k + j) k (xs.length - (k + j)) = Z := ⟨_, rfl⟩
              rw [hZ] at Rc HF
              clear hZ g4 H4 R3 R3D P3 B3 hz3 hi0 hi1 hi2
              have HL0 : Hid (FillRel w w0.heap.size g xs.length gc Z k b f d l 0 wc) := ⟨Rc.out, Pc.out, Bc.out, hzc⟩
              clear Rc Pc Bc hzc
              go_wp2_with fail
              go_loopw [59] (fun v wr => ∃ q : Nat, q ≤ j ∧ v = .int .i64 q ∧ Hid (FillRel w w0.heap.size g xs.length gc Z k b f d l q wr)) (fun v _ => j - (intOf v).toNat)
              case atStart => exact ⟨0, by omega, rfl, HL0⟩
              case round =>
                obtain ⟨q, hq1, rfl, HR⟩ := hrel
                clear HL0
                by_cases hq : q < j
                · have hqn : k + q < xs.length := by omega
                  have hi0 : (0 : Int) ≤ (k : Int) + (q : Int) := by omega
                  have hi1 : (k : Int) + (q : Int) < (xs.length : Int) := by omega
                  have e0 := Own.cell HR.out.2.1 0
                  have e1 := Own.cell HR.out.2.1 1
                  have e2 := Own.cell HR.out.2.1 2
                  have e3 := Own.cell HR.out.2.1 3
                  simp only [List.getElem?_toArray, List.getElem?_cons_zero, List.getElem?_cons_succ] at e0 e1 e2 e3
                  go_wp2_with fail
                  refine (blank_any f b d l _).mono ?_
                  rintro e wx ⟨rfl, bx⟩
                  have HX : Hid (FillRel w w0.heap.size g xs.length gc Z k b f d l q wx) := HR.out.below bx (by have := HR.out.2.2.2; omega) (by have := HR.out.2.2.2; omega)
                  clear bx HR
                  go_wp2_with (first
                    | (refine gstore_list rfl _ _ rfl (d := blank b) rfl rfl HX.out.1 hqn ?_; intro wy r5 g5; have HY' : Hid (FillRel w w0.heap.size g xs.length gc Z k b f d l (q + 1) wy) := HX.out.next1 r5 g5 hne (by omega); clear r5 g5 e0 e1 e2 e3)
                    | go_in)
                  go_roundw
                  case rel => exact ⟨q + 1, by omega, by go_num, HY'⟩
                  case measure => simp [intOf]; omega
                · obtain rfl : q = j := by omega
                  clear hq
                  go_wp2_with fail
                  go_ret
                  exact ⟨_, rfl, by rw [HF.out]; exact HR.out.1.up B0.out.size, HR.out.2.2.1⟩
end Go.Proofs.YtlhcehealjdbdaaDoor
/- Cells taken out at a place. -/
namespace Go.Proofs.YtlhcehealjdbdaaDoor
open Go.RowKit
set_option linter.unusedSimpArgs false
set_option linter.unusedVariables false
attribute [local go_sem] alloc_drewN setCell_drewN


noncomputable def deleteP (xs : List Glyph) (x n : Int) (f b : Int) : List Glyph :=
  if (rowMay xs && penMay f b) = true then
    if x < 0 ∨ xs.length ≤ x ∨ n < 1 then xs else fillP (shiftP (cutP (cutP xs x.toNat) (x.toNat + (min n (xs.length - x)).toNat)) x.toNat (x.toNat + (min n (xs.length - x)).toNat) (xs.length - (x.toNat + (min n (xs.length - x)).toNat))) (xs.length - (min n (xs.length - x)).toNat) (blank b) (min n (xs.length - x)).toNat
  else []
set_option maxRecDepth 10000 in
set_option maxHeartbeats 2000000 in
theorem delete_any (a : Option Addr) (n c : Nat) (x m f b d l : Int) (xs : List Glyph) (w : World) (hl : Cells w a n xs) (ht : Tabs w) : Calls Tryd.prog 26 #[.slice a n c, .int .i64 x, .int .i64 m, .agg #[.int .u32 f, .int .u32 b, .int .u8 d, .int .u16 l]] w (GPost (deleteP xs x m f b) w) := by
  obtain rfl := hl.1
  have HL := Lib.hid hl
  have HT := Lib.hid ht
  clear hl ht
  obtain ⟨ok, hok⟩ : ∃ ok, (rowMay xs && penMay f b) = ok := ⟨_, rfl⟩
  have HOK := Lib.hid hok
  have B0 : Hid (Below w.heap.size w (w.alloc (.cells #[.int .u32 f, .int .u32 b, .int .u8 d, .int .u16 l] 26))) := (Below.refl _ _).alloc (Nat.le_refl _) _
  have P0 : Hid (Own (w.alloc (.cells #[.int .u32 f, .int .u32 b, .int .u8 d, .int .u16 l] 26)) w.heap.size 26 #[.int .u32 f, .int .u32 b, .int .u8 d, .int .u16 l]) := Own.new w 26 _
  have hlt : w.heap.size < (w.alloc (.cells #[.int .u32 f, .int .u32 b, .int .u8 d, .int .u16 l] 26)).heap.size := by simp
  go_enter Tryd.func26, Tryd.ntmps26
  go_wp2_with fail
  generalize w.alloc (.cells #[.int .u32 f, .int .u32 b, .int .u8 d, .int .u16 l] 26) = w0 at B0 P0 hlt ⊢
  have HO := own_any a xs.length c f b d l xs w0 (HL.out.below B0.out) (HT.out.below B0.out)
  rw [HOK.out] at HO
  refine HO.mono ?_
  clear HO
  rintro e w1 ⟨v1, rfl, r1, b1⟩
  have B1 : Hid (Below w.heap.size w w1) := B0.out.trans (b1.mono B0.out.size)
  have P1 : Hid (Own w1 w.heap.size 26 #[.int .u32 f, .int .u32 b, .int .u8 d, .int .u16 l]) := P0.out.below b1 hlt
  have hz1 : w0.heap.size ≤ w1.heap.size := b1.size
  clear b1
  cases ok with
  | false =>
    have HF : Hid (deleteP xs x m f b = []) := by unfold deleteP; rw [hok]; rfl
    have R1 : Hid (CRow w1 w.heap.size v1 []) := CRow.up r1 B0.out.size
    clear r1 hok
    go_wp2_with fail
    go_ret
    exact ⟨_, rfl, by rw [HF.out]; exact R1.out, B1.out⟩
  | true =>
    obtain ⟨ga, gc, rfl, _⟩ := (show CRow w1 w0.heap.size v1 xs from r1).cells
    have R1 : Hid (CRow w1 w0.heap.size (.slice ga xs.length gc) xs) := r1
    have hn8 := (row_iff.1 (Bool.and_eq_true_iff.1 hok).1).2.1
    have hn1 := (row_iff.1 (Bool.and_eq_true_iff.1 hok).1).1
    clear r1
    have HSAME : Hid ((x < 0 ∨ xs.length ≤ x ∨ m < 1) → deleteP xs x m f b = xs) := fun h => by unfold deleteP; rw [hok, if_pos rfl, if_pos h]
    have HOKT := Lib.hid hok
    clear hok
    cases hx0 : decide (x < 0) with
    | true =>
      have HF := Lib.hid (HSAME.out (.inl (of_decide_eq_true hx0)))
      go_wp2_with fail
      go_ret
      exact ⟨_, rfl, by rw [HF.out]; exact R1.out.up B0.out.size, B1.out⟩
    | false =>
      cases hx1 : decide ((xs.length : Int) ≤ x) with
      | true =>
        have HF := Lib.hid (HSAME.out (.inr (.inl (of_decide_eq_true hx1))))
        go_wp2_with fail
        go_ret
        exact ⟨_, rfl, by rw [HF.out]; exact R1.out.up B0.out.size, B1.out⟩
      | false =>
        cases hm1 : decide (m < 1) with
        | true =>
          have HF := Lib.hid (HSAME.out (.inr (.inr (of_decide_eq_true hm1))))
          go_wp2_with fail
          go_ret
          exact ⟨_, rfl, by rw [HF.out]; exact R1.out.up B0.out.size, B1.out⟩
        | false =>
          have q0 := of_decide_eq_false hx0
          have q1 := of_decide_eq_false hx1
          have q2 := of_decide_eq_false hm1
          obtain ⟨k, rfl⟩ : ∃ k : Nat, x = k := ⟨x.toNat, by omega⟩
          have hkn : k < xs.length := by omega
          obtain ⟨j, hj⟩ : ∃ j : Nat, min m ((xs.length : Int) - k) = j := ⟨(min m ((xs.length : Int) - k)).toNat, by omega⟩
          have HJ := Lib.hid hj
          have hj1 : 1 ≤ j := by omega
          have hj2 : k + j ≤ xs.length := by omega
          obtain ⟨g, rfl⟩ := crow_addr R1.out (by omega)
          have hbg : w0.heap.size ≤ g := (crow_at R1.out (k := 0) (by omega)).2.1
          have hne : some w.heap.size ≠ some g := fun e => by injection e with e; omega
          clear hj
          go_upto_region 4 with fail
          go_cut [2] (fun v wc => v = .int .i64 j ∧ w1 = wc)
          case first =>
            have hj := HJ.out
            go_wp2_with fail
            all_goals (go_meet; exact ⟨congrArg (Value.int .i64) (by omega), rfl⟩)
          case rest =>
            obtain ⟨rfl, rfl⟩ := hcut
            have HF : Hid (deleteP xs k m f b = fillP (shiftP (cutP (cutP xs k) (k + j)) k (k + j) (xs.length - (k + j))) (xs.length - j) (blank b) j) := by
              unfold deleteP
              rw [HOKT.out, if_pos rfl, if_neg (by omega), HJ.out]
              rfl
            clear q0 q1 q2 hx0 hx1 hm1
            go_wp2_with fail
            refine (cut_as w0.heap.size g xs.length gc (k) (xs) _ R1.out hn8 (by omega) rfl).mono ?_
            rintro e w2 ⟨rfl, r2, g2⟩
            have R2 := Lib.hid r2
            have B2 : Hid (Below w.heap.size w w2) := below_grown B1.out g2 (by omega) B1.out.size
            have P2 : Hid (Own w2 w.heap.size 26 #[.int .u32 f, .int .u32 b, .int .u8 d, .int .u16 l]) := P1.out.grown g2 hne
            have hz2 : w0.heap.size ≤ w2.heap.size := Nat.le_trans hz1 g2.size
            clear r2 g2
            go_wp2_with fail
            refine (cut_as w0.heap.size g xs.length gc (k + j) (cutP xs k) _ R2.out hn8 (by omega) (by omega)).mono ?_
            rintro e w3 ⟨rfl, r3, g3⟩
            have R3 := Lib.hid r3
            have B3 : Hid (Below w.heap.size w w3) := below_grown B2.out g3 (by omega) B2.out.size
            have P3 : Hid (Own w3 w.heap.size 26 #[.int .u32 f, .int .u32 b, .int .u8 d, .int .u16 l]) := P2.out.grown g3 hne
            have hz3 : w0.heap.size ≤ w3.heap.size := Nat.le_trans hz2 g3.size
            clear r3 g3
            obtain ⟨Y, hY⟩ : ∃ Y, cutP (cutP xs k) (k + j) = Y := ⟨_, rfl⟩
            have hYl : Hid (Y.length = xs.length) := by rw [← hY, cutP_len, cutP_len]; rfl
            rw [hY] at R3 HF
            clear hY
            clear R2 P2 B2 hz2 R1 P1 B1 hz1
            have R3D : Hid (CRow w3.drew w0.heap.size (.slice (some ⟨g, 0, none⟩) xs.length gc) Y) := R3.out
            have hcap := crow_cap R3.out (by omega)
            have hi0 : (0 : Int) ≤ (k : Int) + j := by omega
            have hi1 : (k : Int) + j ≤ xs.length := by omega
            have hi2 : (k : Int) ≤ xs.length := by omega
            go_upto_region 7 with fail
            go_cut [2] (fun v wc => v = .int .i64 j ∧ Hid (CRow wc w0.heap.size (.slice (some ⟨g, 0, none⟩) xs.length gc) (shiftP Y k (k + j) (xs.length - (k + j))) ∧ w3.drew.grownBy wc (some g)))
            case first =>
              refine wp_region_bits_at (S := fun _ => True) [(0, true), (1, true), (2, true), (3, true), (4, true), (5, true), (6, true), (7, true), (8, false)] [8] (by kernel_rfl) (by kernel_rfl) (fun c a d v w h => by cases d <;> exact h) True.intro ?_
              simp only [bits_, bitOf, List.getElem?_cons_zero, List.getElem?_cons_succ, List.contains_nil, List.contains_cons, Nat.reduceBEq, Bool.or_false]
              repeat (first | (refine bits_take (v := ?_) (by rfl) ?_ ?_; rotate_left; (· intro w' hS; skip; go_simp; (try (go_ints; try go_simp)); with_reducible rfl); (try simp only [Act.put, List.setIfInBounds_toArray, List.set_cons_zero, List.set_cons_succ])) | (refine bits_skip (by rfl) ?_; (try simp only [Act.put, List.setIfInBounds_toArray, List.set_cons_zero, List.set_cons_succ])))
              refine bits_tail (by rfl) (fun K hK => ?_)
              refine gshift_op _ _ rfl k (k + j) (xs.length - (k + j)) rfl rfl R3D.out ?_ ?_ ?_ ?_ ?_ fun w4 r4 g4' => ?_
              · show _ = min _ _; omega
              · omega
              · omega
              · exact fun h0 => if_neg (by omega)
              · exact fun h0 => if_neg (by omega)
              have R4 := Lib.hid r4
              have g4 := Lib.hid g4'
              clear r4 g4'
              refine hK _ _ ?_
              clear hK K
              (try simp only [Act.put])
              repeat (first | (refine bits_take (v := ?_) (by rfl) ?_ ?_; rotate_left; (· intro w' hS; skip; go_simp; (try (go_ints; try go_simp)); with_reducible rfl); (try simp only [Act.put, List.setIfInBounds_toArray, List.set_cons_zero, List.set_cons_succ])) | (refine bits_skip (by rfl) ?_; (try simp only [Act.put, List.setIfInBounds_toArray, List.set_cons_zero, List.set_cons_succ])))
              refine bits_nil ?_
              (try simp only [Act.put, List.setIfInBounds_toArray, List.set_cons_zero, List.set_cons_succ])
              refine Met.intro ?_
              go_step
              go_meet
              exact ⟨rfl, R4.out, g4.out⟩
            case rest =>
              obtain ⟨rfl, H4⟩ := hcut
              obtain ⟨Rc, g4⟩ : Hid (CRow wc w0.heap.size (.slice (some ⟨g, 0, none⟩) xs.length gc) (shiftP Y k (k + j) (xs.length - (k + j)))) ∧ Hid (w3.drew.grownBy wc (some g)) := ⟨H4.out.1, H4.out.2⟩
              have Pc : Hid (Own wc w.heap.size 26 #[.int .u32 f, .int .u32 b, .int .u8 d, .int .u16 l]) := (P3.out.draws 1).grown g4.out hne
              have Bc : Hid (Below w.heap.size w wc) := below_grown (below_drewN B3.out 1) g4.out (by omega) (by have := B3.out.size; exact this)
              have hzc : w0.heap.size ≤ wc.heap.size := Nat.le_trans hz3 g4.out.size
              obtain ⟨Z, hZ⟩ : ∃ Z, shiftP Y k (k + j) (xs.length - (k + j)) = Z := ⟨_, rfl⟩
              rw [hZ] at Rc HF
              clear hZ g4 H4 R3 R3D P3 B3 hz3 hi0 hi1 hi2
              obtain ⟨S, hS⟩ : ∃ S, xs.length - j = S := ⟨_, rfl⟩
              rw [hS] at HF
              have HS := Lib.hid hS
              have hSn : S ≤ xs.length := by omega
              clear hS
              have HL0 : Hid (FillRel w w0.heap.size g xs.length gc Z S b f d l 0 wc) := ⟨Rc.out, Pc.out, Bc.out, hzc⟩
              clear Rc Pc Bc hzc
              go_wp2_with fail
              go_loopw [10] (fun v wr => ∃ q : Nat, S ≤ q ∧ q ≤ xs.length ∧ v = .int .i64 q ∧ Hid (FillRel w w0.heap.size g xs.length gc Z S b f d l (q - S) wr)) (fun v _ => xs.length - (intOf v).toNat)
              case atStart => exact ⟨S, Nat.le_refl _, by omega, congrArg (Value.int .i64) (by have := HS.out; omega), by rw [Nat.sub_self]; exact HL0⟩
              case round =>
                obtain ⟨q, hq0, hq1, rfl, HR⟩ := hrel
                clear HL0
                by_cases hq : q < xs.length
                · have hqn : q < xs.length := by omega
                  have hi0 : (0 : Int) ≤ (q : Int) := by omega
                  have hi1 : (q : Int) < (xs.length : Int) := by omega
                  have e0 := Own.cell HR.out.2.1 0
                  have e1 := Own.cell HR.out.2.1 1
                  have e2 := Own.cell HR.out.2.1 2
                  have e3 := Own.cell HR.out.2.1 3
                  simp only [List.getElem?_toArray, List.getElem?_cons_zero, List.getElem?_cons_succ] at e0 e1 e2 e3
                  go_wp2_with fail
                  refine (blank_any f b d l _).mono ?_
                  rintro e wx ⟨rfl, bx⟩
                  have HX : Hid (FillRel w w0.heap.size g xs.length gc Z S b f d l (q - S) wx) := HR.out.below bx (by have := HR.out.2.2.2; omega) (by have := HR.out.2.2.2; omega)
                  clear bx HR
                  go_wp2_with (first
                    | (refine gstore_list rfl _ _ rfl (d := blank b) rfl rfl HX.out.1 hqn ?_; intro wy r5 g5; have HY' : Hid (FillRel w w0.heap.size g xs.length gc Z S b f d l (q + 1 - S) wy) := HX.out.next hq0 r5 g5 hne (by omega); clear r5 g5 e0 e1 e2 e3)
                    | go_in)
                  go_roundw
                  case rel => exact ⟨q + 1, by omega, by omega, by go_num, HY'⟩
                  case measure => simp [intOf]; omega
                · have hqT : Hid (q = xs.length) := (by omega : q = xs.length)
                  have hdq : decide (q < xs.length) = false := decide_eq_false hq
                  have HF2 : Hid (deleteP xs k m f b = fillP Z S (blank b) (q - S)) := by rw [HF.out, show j = q - S from by have := HS.out; have := hqT.out; omega]; rfl
                  go_wp2_with fail
                  go_ret
                  exact ⟨_, rfl, by rw [HF2.out]; exact HR.out.1.up B0.out.size, HR.out.2.2.1⟩
end Go.Proofs.YtlhcehealjdbdaaDoor
