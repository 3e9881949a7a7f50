/- The wide letter whose halves stand on either side of a place is broken. -/
import Derived.Test.YtlhcehealjdbdaaDoorRefRowMay
import Derived.Test.YtlhcehealjdbdaaDoorGStore
import Derived.Deep.DeepCutAuto
namespace Go.Proofs.YtlhcehealjdbdaaDoor
open Go.RowKit
attribute [local go_sem] alloc_drewN setCell_drewN


/-- A letter cut at x, in a row. -/
def cutP (xs : List Glyph) (x : Nat) : List Glyph := if 0 < x ∧ x < xs.length ∧ (at_ xs x).w = 2 then (xs.set (x - 1) (blank (at_ xs x).b)).set x (blank (at_ xs x).b) else xs
def PenAt (w : World) (b o : Nat) (c : Glyph) : Prop :=
  w.cell? ⟨b, o + 2, none⟩ = some (.int .u32 c.f) ∧ w.cell? ⟨b, o + 3, none⟩ = some (.int .u32 c.b) ∧ w.cell? ⟨b, o + 4, none⟩ = some (.int .u8 c.a) ∧ w.cell? ⟨b, o + 5, none⟩ = some (.int .u16 c.l)
theorem PenAt.below {w w' : World} {b o : Nat} {c : Glyph} (h : PenAt w b o c) (hb : b < w.heap.size) (k : Below w.heap.size w w') : PenAt w' b o c := ⟨(k.cell hb).trans h.1, (k.cell hb).trans h.2.1, (k.cell hb).trans h.2.2.1, (k.cell hb).trans h.2.2.2⟩
theorem at_set_ne {xs : List Glyph} {i j : Nat} {d : Glyph} (h : i ≠ j) : at_ (xs.set i d) j = at_ xs j := by
  unfold at_
  rw [List.getD_eq_getElem?_getD, List.getElem?_set_ne h, ← List.getD_eq_getElem?_getD]
theorem at_set_eq {xs : List Glyph} {i : Nat} {d : Glyph} (h : i < xs.length) : at_ (xs.set i d) i = d := set_getD h
theorem penAt_of {w : World} {base g n c k : Nat} {xs : List Glyph} (h : CRow w base (.slice (some ⟨g, 0, none⟩) n c) xs) (hk : k < n) (z : Glyph) (hz : at_ xs k = z) : PenAt w g (k * 6) z := by
  subst hz
  exact (crow_at h hk).1.2.2
def CutPost (base : Nat) (v : Value) (xs : List Glyph) (g : Nat) (w : World) (e : Ending) (w' : World) : Prop := e = .returned (.tuple #[]) ∧ CRow w' base v xs ∧ w.grownBy w' (some g)
set_option maxRecDepth 10000 in
set_option maxHeartbeats 2000000 in
theorem cut_any (base g n c x : Nat) (xs : List Glyph) (w : World) (hr : CRow w base (.slice (some ⟨g, 0, none⟩) n c) xs) (hn : n ≤ 80) (hx : x ≤ 80) : Calls Tryd.prog 49 #[.slice (some ⟨g, 0, none⟩) n c, .int .i64 x] w (CutPost base (.slice (some ⟨g, 0, none⟩) n c) (cutP xs x) g w) := by
  have HR := Lib.hid hr
  obtain rfl := crow_len hr
  clear hr
  by_cases h1 : 0 < x
  · have hd1 : decide (0 < (x : Int)) = true := decide_eq_true (by omega)
    have hd1' : decide (0 < x) = true := decide_eq_true h1
    by_cases h2 : x < xs.length
    · have hd2 : decide (x < xs.length) = true := decide_eq_true h2
      obtain ⟨z, hz⟩ : ∃ z, at_ xs x = z := ⟨_, rfl⟩
      have HZ := Lib.hid hz
      have hga := crow_at HR.out h2
      have hz' : xs.getD x g0 = z := hz
      rw [hz'] at hga
      obtain ⟨⟨e0, e1, e2, e3, e4, e5⟩, hbg, hfz⟩ := hga
      have hg : g < w.heap.size := (World.ownsRow.lt HR.out g rfl).2
      have HS0 : Hid (PenAt w.drew g (x * 6) z) := ⟨e2, e3, e4, e5⟩
      have hi0 : (1 : Int) ≤ (x : Int) := by omega
      have hi1 : (x : Int) - 1 < xs.length := by omega
      have HRD : Hid (CRow w.drew base (.slice (some ⟨g, 0, none⟩) xs.length c) xs) := HR.out
      have hxp : x - 1 < xs.length := by omega
      clear hz hz'
      cases h3 : (z.w == 2) with
      | true =>
        go_enter Tryd.func49, Tryd.ntmps49
        go_wp2_with fail
        refine wp_region_bits_at (S := fun w' => PenAt w' g (x * 6) z) [(0, true), (1, true), (2, true), (3, true), (4, true), (5, true), (6, true), (7, true), (8, true), (9, true), (11, true), (12, true), (13, true), (14, true), (15, true), (10, false), (16, false), (17, true), (18, false), (19, true), (20, false)] [20] (by kernel_rfl) (by kernel_rfl) (fun c a d v w h => by cases d <;> exact h) HS0.out ?_
        simp only [bits_, bitOf, List.getElem?_cons_zero, List.getElem?_cons_succ, List.contains_nil, List.contains_cons, Nat.reduceBEq, Bool.or_false]
        repeat (first | (refine bits_take (v := ?_) (by rfl) ?_ ?_; rotate_left; (· intro w' hS; obtain ⟨s2, s3, s4, s5⟩ := hS; go_simp; (try (go_ints; try go_simp)); with_reducible rfl); (try simp only [Act.put, List.setIfInBounds_toArray, List.set_cons_zero, List.set_cons_succ])) | (refine bits_skip (by rfl) ?_; (try simp only [Act.put, List.setIfInBounds_toArray, List.set_cons_zero, List.set_cons_succ])))
        refine bits_eff (by rfl) (fun K hK => ?_)
        go_simp
        (try go_ints)
        refine (blank_any z.f z.b z.a z.l _).mono ?_
        rintro e w1 ⟨rfl, b1⟩
        refine hK _ _ ?_ ?_
        · exact HS0.out.below hg b1
        clear hK K
        (try simp only [Act.put, List.setIfInBounds_toArray, List.set_cons_zero, List.set_cons_succ])
        repeat (first | (refine bits_take (v := ?_) (by rfl) ?_ ?_; rotate_left; (· intro w' hS; obtain ⟨s2, s3, s4, s5⟩ := hS; go_simp; (try (go_ints; try go_simp)); with_reducible rfl); (try simp only [Act.put, List.setIfInBounds_toArray, List.set_cons_zero, List.set_cons_succ])) | (refine bits_skip (by rfl) ?_; (try simp only [Act.put, List.setIfInBounds_toArray, List.set_cons_zero, List.set_cons_succ])))
        refine bits_eff (by rfl) (fun K hK => ?_)
        go_simp
        (try go_ints)
        refine (blank_any z.f z.b z.a z.l _).mono ?_
        rintro e w2 ⟨rfl, b2⟩
        have R2 := Lib.hid ((HRD.out.below b1).below b2)
        refine hK _ _ ?_ ?_
        · exact (HS0.out.below hg b1).below (Nat.lt_of_lt_of_le hg b1.size) b2
        clear hK K
        (try simp only [Act.put, List.setIfInBounds_toArray, List.set_cons_zero, List.set_cons_succ])
        repeat (first | (refine bits_take (v := ?_) (by rfl) ?_ ?_; rotate_left; (· intro w' hS; obtain ⟨s2, s3, s4, s5⟩ := hS; go_simp; (try (go_ints; try go_simp)); with_reducible rfl); (try simp only [Act.put, List.setIfInBounds_toArray, List.set_cons_zero, List.set_cons_succ])) | (refine bits_skip (by rfl) ?_; (try simp only [Act.put, List.setIfInBounds_toArray, List.set_cons_zero, List.set_cons_succ])))
        refine bits_eff (by rfl) (fun K hK => ?_)
        refine gstore_op _ _ rfl rfl rfl R2.out hxp fun w3 r3 g3 => ?_
        have R3 := Lib.hid r3
        have HS3 := Lib.hid (penAt_of R3.out h2 z (by rw [at_set_ne (by omega)]; exact HZ.out))
        refine hK _ _ ?_ ?_
        · exact HS3.out
        clear hK K
        (try simp only [Act.put])
        repeat (first | (refine bits_take (v := ?_) (by rfl) ?_ ?_; rotate_left; (· intro w' hS; obtain ⟨s2, s3, s4, s5⟩ := hS; go_simp; (try (go_ints; try go_simp)); with_reducible rfl); (try simp only [Act.put, List.setIfInBounds_toArray, List.set_cons_zero, List.set_cons_succ])) | (refine bits_skip (by rfl) ?_; (try simp only [Act.put, List.setIfInBounds_toArray, List.set_cons_zero, List.set_cons_succ])))
        refine bits_tail (by rfl) (fun K hK => ?_)
        refine gstore_op _ _ rfl rfl rfl R3.out h2 fun w4 r4 g4 => ?_
        refine hK _ _ ?_
        clear hK K
        (try simp only [Act.put])
        repeat (first | (refine bits_take (v := ?_) (by rfl) ?_ ?_; rotate_left; (· intro w' hS; obtain ⟨s2, s3, s4, s5⟩ := hS; go_simp; (try (go_ints; try go_simp)); with_reducible rfl); (try simp only [Act.put, List.setIfInBounds_toArray, List.set_cons_zero, List.set_cons_succ])) | (refine bits_skip (by rfl) ?_; (try simp only [Act.put, List.setIfInBounds_toArray, List.set_cons_zero, List.set_cons_succ])))
        refine bits_nil ?_
        have HG : Hid (w.grownBy w4 (some g)) := grown_trans (grown_trans (grown_trans (grown_trans (grown_drew w _) (grown_of_below b1 _)) (grown_of_below b2 _)) g3) g4
        have HC : Hid (cutP xs x = (xs.set (x - 1) (blank z.b)).set x (blank z.b)) := by
          unfold cutP
          rw [HZ.out, if_pos ⟨h1, h2, eq_of_beq h3⟩]
          rfl
        go_end0
        exact ⟨rfl, by rw [HC.out]; exact r4, HG.out⟩
      | false =>
        have HC : Hid (cutP xs x = xs) := if_neg (fun k => by have := k.2.2; rw [HZ.out] at this; rw [this] at h3; cases h3)
        go_enter Tryd.func49, Tryd.ntmps49
        go_wp2_with fail
        go_end0
        exact ⟨rfl, by rw [HC.out]; exact HR.out, turn_refl w _⟩
    · have hd2 : decide (x < xs.length) = false := decide_eq_false h2
      have HC : Hid (cutP xs x = xs) := if_neg (fun k => h2 k.2.1)
      clear h2
      go_enter Tryd.func49, Tryd.ntmps49
      go_wp2_with fail
      go_end0
      exact ⟨rfl, by rw [HC.out]; exact HR.out, turn_refl w _⟩
  · obtain rfl : x = 0 := by omega
    have HC : Hid (cutP xs 0 = xs) := if_neg (fun k => absurd k.1 (by omega))
    go_enter Tryd.func49, Tryd.ntmps49
    go_wp2_with fail
    go_end0
    exact ⟨rfl, by rw [HC.out]; exact HR.out, turn_refl w _⟩
end Go.Proofs.YtlhcehealjdbdaaDoor
