/- Whether two lists hold the same texts. -/
import Derived.Test.YtdnihlfnglkjiaaClone
namespace Go.Proofs.Ytdnihlfnglkjiaa
open Go.RowKit
attribute [local go_sem] alloc_drewN setCell_drewN


theorem same_yes {xs ys : List ByteArray} (hl : xs.length = ys.length) (h : ∀ j, j < xs.length → xs.getD j ByteArray.empty = ys.getD j ByteArray.empty) : xs = ys := by
  refine List.ext_getElem hl fun j h1 h2 => ?_
  have := h j h1
  rw [List.getD_eq_getElem?_getD, List.getD_eq_getElem?_getD, List.getElem?_eq_getElem h1, List.getElem?_eq_getElem h2] at this
  exact this
set_option maxHeartbeats 400000 in
theorem same_any (a b : Option Addr) (n c k d : Nat) (xs ys : List ByteArray) (w : World) (hl : Strs w a n xs) (hk : Strs w b k ys) : Calls Try.prog 12 #[.slice a n c, .slice b k d] w (BPost (decide (xs = ys)) w) := by
  have HL := Lib.hid hl
  have HK := Lib.hid hk
  have hn := hl.2.1
  have hkn := hk.2.1
  obtain rfl := hl.1
  obtain rfl := hk.1
  clear hl hk
  by_cases hlen : xs.length = ys.length
  · have hb : ((xs.length : Int) == (ys.length : Int)) = true := by rw [hlen]; exact beq_self_eq_true _
    have HLEN := Lib.hid hlen
    have hle : xs.length ≤ ys.length := by omega
    clear hlen
    go_enter Try.func12, Try.ntmps12
    go_wp2_with fail
    go_loopw [13] (fun i wr => ∃ (q m : Nat), q ≤ xs.length ∧ i = .int .i64 q ∧ wr = w.drewN m ∧ Hid (∀ j, j < q → xs.getD j ByteArray.empty = ys.getD j ByteArray.empty)) (fun i _ => xs.length - (intOf i).toNat)
    case atStart => exact ⟨0, 0, by omega, rfl, rfl, fun j h => absurd h (by omega)⟩
    case round =>
      obtain ⟨q, m, hq, rfl, rfl, HA⟩ := hrel
      by_cases hqn : q < xs.length
      · obtain ⟨b1, o1, rfl, hb1, hc1⟩ := HL.out.2.2 (by omega)
        obtain ⟨b2, o2, rfl, hb2, hc2⟩ := HK.out.2.2 (by omega)
        have e1 := hc1 q hqn
        have e2 := hc2 q (by omega)
        have hq2 : q < ys.length := by omega
        obtain ⟨x, hxe⟩ : ∃ x, x = xs.getD q ByteArray.empty := ⟨_, rfl⟩
        obtain ⟨y, hye⟩ : ∃ x, x = ys.getD q ByteArray.empty := ⟨_, rfl⟩
        have HXE := Lib.hid hxe
        have HYE := Lib.hid hye
        rw [← hxe] at e1
        rw [← hye] at e2
        clear hc1 hc2 hxe hye
        by_cases hx : x = y
        · subst hx
          have hnew : Hid (∀ j, j < q + 1 → xs.getD j ByteArray.empty = ys.getD j ByteArray.empty) := fun j hj => by
            rcases Nat.lt_or_ge j q with h1 | h1
            · exact HA.out j h1
            · obtain rfl : j = q := by omega
              rw [← HXE.out, ← HYE.out]
          go_wp2_with fail
          refine wp_region_bits [(0, true), (1, true), (2, true), (3, true), (4, true), (5, true), (6, true), (7, true), (8, true)] [] (by kernel_rfl) (by kernel_rfl) (fun c a d v w h => by cases d <;> exact h) ?_
          simp only [bits_, bitOf, List.getElem?_cons_zero, List.getElem?_cons_succ, List.contains_nil]
          repeat (first
            | (refine bits_take (v := ?_) (by rfl) ?_ ?_; rotate_left; (· intro w' hS; go_simp; (repeat (rw [hS.at_]; rotate_left; (· go_simp); go_simp)); (try (go_ints; try go_simp)); with_reducible rfl); (try simp only [Act.put, List.setIfInBounds_toArray, List.set_cons_zero, List.set_cons_succ]))
            | (refine bits_skip (by rfl) ?_; (try simp only [Act.put, List.setIfInBounds_toArray, List.set_cons_zero, List.set_cons_succ]))
            | (refine bits_pass (by rfl) ?_ ?_; (· repeat (first | (with_reducible (first | exact Keep.refl _ | refine Keep.left _ ?_ | refine Keep.drew ?_ | refine Keep.drewN ?_ _ | refine Keep.alloc ?_ _)) | (refine Keep.below ?_ (by assumption)))); (try simp only [Act.put, List.setIfInBounds_toArray, List.set_cons_zero, List.set_cons_succ]))
            | (refine bits_eff (by rfl) (fun K hK => ?_); go_simp; (try go_ints); (first | go_at_K); refine hK _ _ ?_ ?_; (· repeat (first | (with_reducible (first | exact Keep.refl _ | refine Keep.left _ ?_ | refine Keep.drew ?_ | refine Keep.drewN ?_ _ | refine Keep.alloc ?_ _)) | (refine Keep.below ?_ (by assumption)))); clear hK K; (try simp only [Act.put, List.setIfInBounds_toArray, List.set_cons_zero, List.set_cons_succ])))
          refine bits_nil ?_
          go_wp2_with fail
          go_roundw
          case rel => exact ⟨q + 1, m + 1, by omega, by go_num, by simp, hnew⟩
          case measure => simp [intOf]; omega
        · have hx' := txt_ne hx
          have HD := Lib.hid (decide_eq_false (show ¬ xs = ys from fun h => hx (by rw [HXE.out, HYE.out, h])))
          clear hx
          go_wp2_with fail
          refine wp_region_bits [(0, true), (1, true), (2, true), (3, true), (4, true), (5, true), (6, true), (7, true), (8, true)] [] (by kernel_rfl) (by kernel_rfl) (fun c a d v w h => by cases d <;> exact h) ?_
          simp only [bits_, bitOf, List.getElem?_cons_zero, List.getElem?_cons_succ, List.contains_nil]
          repeat (first
            | (refine bits_take (v := ?_) (by rfl) ?_ ?_; rotate_left; (· intro w' hS; go_simp; (repeat (rw [hS.at_]; rotate_left; (· go_simp); go_simp)); (try (go_ints; try go_simp)); with_reducible rfl); (try simp only [Act.put, List.setIfInBounds_toArray, List.set_cons_zero, List.set_cons_succ]))
            | (refine bits_skip (by rfl) ?_; (try simp only [Act.put, List.setIfInBounds_toArray, List.set_cons_zero, List.set_cons_succ]))
            | (refine bits_pass (by rfl) ?_ ?_; (· repeat (first | (with_reducible (first | exact Keep.refl _ | refine Keep.left _ ?_ | refine Keep.drew ?_ | refine Keep.drewN ?_ _ | refine Keep.alloc ?_ _)) | (refine Keep.below ?_ (by assumption)))); (try simp only [Act.put, List.setIfInBounds_toArray, List.set_cons_zero, List.set_cons_succ]))
            | (refine bits_eff (by rfl) (fun K hK => ?_); go_simp; (try go_ints); (first | go_at_K); refine hK _ _ ?_ ?_; (· repeat (first | (with_reducible (first | exact Keep.refl _ | refine Keep.left _ ?_ | refine Keep.drew ?_ | refine Keep.drewN ?_ _ | refine Keep.alloc ?_ _)) | (refine Keep.below ?_ (by assumption)))); clear hK K; (try simp only [Act.put, List.setIfInBounds_toArray, List.set_cons_zero, List.set_cons_succ])))
          refine bits_nil ?_
          go_wp2_with fail
          go_ret
          exact ⟨by rw [HD.out]; rfl, m + 1, by simp⟩
      · obtain rfl : q = xs.length := by omega
        have HD := Lib.hid (decide_eq_true (same_yes HLEN.out HA.out))
        go_wp2_with fail
        go_ret
        exact ⟨by rw [HD.out]; rfl, m, rfl⟩
  · have hb : ((xs.length : Int) == (ys.length : Int)) = false := beq_eq_false_iff_ne.2 (fun h => hlen (by omega))
    have HD := Lib.hid (decide_eq_false (show ¬ xs = ys from fun h => hlen (by rw [h])))
    clear hlen
    go_enter Try.func12, Try.ntmps12
    go_wp2_with fail
    go_ret
    exact ⟨by rw [HD.out]; rfl, 0, rfl⟩
end Go.Proofs.Ytdnihlfnglkjiaa
