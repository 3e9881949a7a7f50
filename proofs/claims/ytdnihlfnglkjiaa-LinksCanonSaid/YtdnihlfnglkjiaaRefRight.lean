/- Does all stand in order, as the document asks: the walk. -/
import Derived.Test.YtdnihlfnglkjiaaRightW
namespace Go.Proofs.Ytdnihlfnglkjiaa
open Go.RowKit
attribute [local go_sem] alloc_drewN setCell_drewN


theorem right_parts {l : List ByteArray} {cs : List Glyph} (h16 : l.length ≤ 16) : Right l cs ↔ (∀ j, j < cs.length → ((canon l cs).getD j g0).l = (cs.getD j g0).l) ∧ tx l cs cs.length = l := by
  constructor
  · exact fun h => ⟨fun j _ => by rw [h.2.1], h.2.2⟩
  · rintro ⟨h1, h2⟩
    refine ⟨h16, glyphs_ext (canon_len _ _) fun j hj => ?_, h2⟩
    rw [canon_len] at hj
    have h3 := h1 j hj
    rw [canon_at l hj] at h3 ⊢
    unfold renum at h3 ⊢
    simp only at h3
    rw [h3]
set_option maxHeartbeats 1000000 in
theorem ref_right_any (a b : Option Addr) (n c k d : Nat) (cs : List Glyph) (xs : List ByteArray) (w : World) (hc : Cells w a n cs) (hl : Strs w b k xs) (hx : ∀ x ∈ xs, x.size ≤ 4611686018427387904) (hf : Fit cs) (hn : n ≤ 3000) : Calls Try.prog 23 #[.slice a n c, .slice b k d] w (WPost (rightB xs cs) w) := by
  obtain rfl := hc.1
  obtain rfl := hl.1
  have HC := Lib.hid hc
  have HL := Lib.hid hl
  have HX := Lib.hid hx
  have HF := Lib.hid hf
  clear hc hl hx hf
  by_cases h16 : xs.length ≤ 16
  · have hd : decide (16 < (xs.length : Int)) = false := decide_eq_false (by omega)
    go_enter Try.func23, Try.ntmps23
    go_wp2_with fail
    refine (ref_canon_any a b cs.length c xs.length d cs xs _ HC.out HL.out HX.out HF.out hn).mono ?_
    rintro e w1 ⟨v1, v2, rfl, r1, r2, b1⟩
    obtain ⟨ca, cc, rfl, c1⟩ := r1.cells
    obtain ⟨la, lc, rfl, l1⟩ := r2.strs
    have hcl := canon_len xs cs
    rw [hcl] at c1 ⊢
    have C1 := Lib.hid c1
    have B1 := Lib.hid b1
    have L1 := Lib.hid l1
    clear r1 r2 c1 b1 l1 hcl
    go_wp2_with fail
    go_loopw [19] (fun v wr => ∃ (i m : Nat), i ≤ cs.length ∧ v = .int .i64 i ∧ wr = w1.drewN m ∧ Hid (∀ j, j < i → ((canon xs cs).getD j g0).l = (cs.getD j g0).l)) (fun v _ => cs.length - (intOf v).toNat)
    case atStart => exact ⟨0, 0, by omega, rfl, rfl, fun j h => absurd h (by omega)⟩
    case round =>
      obtain ⟨i, m, hi, rfl, rfl, HG⟩ := hrel
      by_cases hin : i < cs.length
      · obtain ⟨b1, o1, rfl, hb1, hc1⟩ := HC.out.2.2 (by omega)
        obtain ⟨b2, o2, rfl, hb2, hc2⟩ := C1.out.2.2 (by omega)
        have e1 := (B1.out.cell (p := ⟨b1, o1 + i * 6 + 5, none⟩) hb1).trans (hc1 i hin).2.2.2.2.2
        have e2 := (hc2 i hin).2.2.2.2.2
        obtain ⟨x, hx⟩ : ∃ x, (cs.getD i g0).l = x := ⟨_, rfl⟩
        obtain ⟨y, hy⟩ : ∃ y, ((canon xs cs).getD i g0).l = y := ⟨_, rfl⟩
        rw [hx] at e1
        rw [hy] at e2
        have HXX := Lib.hid hx
        have HYY := Lib.hid hy
        clear hc1 hc2 hx hy
        by_cases hxy : y = x
        · subst hxy
          have HN : Hid (∀ j, j < i + 1 → ((canon xs cs).getD j g0).l = (cs.getD j g0).l) := fun j hj => by
            rcases Nat.lt_or_ge j i with h1 | h1
            · exact HG.out j h1
            · obtain rfl : j = i := by omega
              rw [HXX.out, HYY.out]
          go_wp2_with fail
          refine wp_region_bits [(0, true), (1, true), (2, true), (3, true), (4, true), (5, true), (6, true), (7, true), (8, true), (9, true), (10, true), (11, true), (12, true)] [] (by kernel_rfl) (by kernel_rfl) (fun c a d v w h => by cases d <;> exact h) ?_
          simp only [bits_, bitOf, List.getElem?_cons_zero, List.getElem?_cons_succ, List.contains_nil]
          repeat (first
            | (refine bits_take (v := ?_) (by rfl) ?_ ?_; rotate_left; (· intro w' hS; go_simp; (repeat (rw [hS.at_]; rotate_left; (· go_simp); go_simp)); (try (go_ints; try go_simp)); with_reducible rfl); (try simp only [Act.put, List.setIfInBounds_toArray, List.set_cons_zero, List.set_cons_succ]))
            | (refine bits_skip (by rfl) ?_; (try simp only [Act.put, List.setIfInBounds_toArray, List.set_cons_zero, List.set_cons_succ]))
            | (refine bits_pass (by rfl) ?_ ?_; (· repeat (first | (with_reducible (first | exact Keep.refl _ | refine Keep.left _ ?_ | refine Keep.drew ?_ | refine Keep.drewN ?_ _ | refine Keep.alloc ?_ _)) | (refine Keep.below ?_ (by with_reducible assumption)))); (try simp only [Act.put, List.setIfInBounds_toArray, List.set_cons_zero, List.set_cons_succ]))
            | (refine bits_eff (by rfl) (fun K hK => ?_); go_simp; (try go_ints); (first | go_at_K); refine hK _ _ ?_ ?_; (· repeat (first | (with_reducible (first | exact Keep.refl _ | refine Keep.left _ ?_ | refine Keep.drew ?_ | refine Keep.drewN ?_ _ | refine Keep.alloc ?_ _)) | (refine Keep.below ?_ (by with_reducible assumption)))); clear hK K; (try simp only [Act.put, List.setIfInBounds_toArray, List.set_cons_zero, List.set_cons_succ])))
          refine bits_nil ?_
          go_wp2_with fail
          go_roundw
          case rel => exact ⟨i + 1, m + 1, by omega, by go_num, by simp, HN⟩
          case measure => simp [intOf]; omega
        · have HR := Lib.hid (right_no (l := xs) (cs := cs) (fun h => hxy (by rw [← HXX.out, ← HYY.out]; exact ((right_parts h16).1 h).1 i hin)))
          have hne : (y != x) = true := bne_iff_ne.2 hxy
          clear hxy
          go_wp2_with fail
          refine wp_region_bits [(0, true), (1, true), (2, true), (3, true), (4, true), (5, true), (6, true), (7, true), (8, true), (9, true), (10, true), (11, true), (12, true)] [] (by kernel_rfl) (by kernel_rfl) (fun c a d v w h => by cases d <;> exact h) ?_
          simp only [bits_, bitOf, List.getElem?_cons_zero, List.getElem?_cons_succ, List.contains_nil]
          repeat (first
            | (refine bits_take (v := ?_) (by rfl) ?_ ?_; rotate_left; (· intro w' hS; go_simp; (repeat (rw [hS.at_]; rotate_left; (· go_simp); go_simp)); (try (go_ints; try go_simp)); with_reducible rfl); (try simp only [Act.put, List.setIfInBounds_toArray, List.set_cons_zero, List.set_cons_succ]))
            | (refine bits_skip (by rfl) ?_; (try simp only [Act.put, List.setIfInBounds_toArray, List.set_cons_zero, List.set_cons_succ]))
            | (refine bits_pass (by rfl) ?_ ?_; (· repeat (first | (with_reducible (first | exact Keep.refl _ | refine Keep.left _ ?_ | refine Keep.drew ?_ | refine Keep.drewN ?_ _ | refine Keep.alloc ?_ _)) | (refine Keep.below ?_ (by with_reducible assumption)))); (try simp only [Act.put, List.setIfInBounds_toArray, List.set_cons_zero, List.set_cons_succ]))
            | (refine bits_eff (by rfl) (fun K hK => ?_); go_simp; (try go_ints); (first | go_at_K); refine hK _ _ ?_ ?_; (· repeat (first | (with_reducible (first | exact Keep.refl _ | refine Keep.left _ ?_ | refine Keep.drew ?_ | refine Keep.drewN ?_ _ | refine Keep.alloc ?_ _)) | (refine Keep.below ?_ (by with_reducible assumption)))); clear hK K; (try simp only [Act.put, List.setIfInBounds_toArray, List.set_cons_zero, List.set_cons_succ])))
          refine bits_nil ?_
          go_wp2_with fail
          go_ret
          exact ⟨by rw [HR.out]; rfl, below_drewN B1.out (m + 1)⟩
      · obtain rfl : i = cs.length := by omega
        have HD : Hid (decide (tx xs cs cs.length = xs) = rightB xs cs) := by
          rw [Hid, Bool.eq_iff_iff, decide_eq_true_iff, right_iff, right_parts h16]
          exact ⟨fun h => ⟨HG.out, h⟩, fun h => h.2⟩
        have L2 : Hid (Strs (w1.drewN m) la (tx xs cs cs.length).length (tx xs cs cs.length)) := L1.out.below (below_drewN (Below.refl _ _) m)
        have BM : Hid (Below w.heap.size w (w1.drewN m)) := below_drewN B1.out m
        go_wp2_with fail
        refine (same_at L2.out (HL.out.below BM.out) HD.out).mono ?_
        rintro e w3 ⟨rfl, m3, rfl⟩
        go_wp2_with fail
        go_ret
        exact ⟨rfl, below_drewN B1.out (m + m3)⟩
  · have hd : decide (16 < (xs.length : Int)) = true := decide_eq_true (by omega)
    have HR := Lib.hid (right_no (l := xs) (cs := cs) (fun h => h16 h.1))
    clear h16
    go_enter Try.func23, Try.ntmps23
    go_wp2_with fail
    go_ret
    exact ⟨by rw [HR.out]; rfl, Below.refl _ _⟩
end Go.Proofs.Ytdnihlfnglkjiaa
