/- Where a text stands in a list. -/
import Derived.Test.YtdnihlfnglkjiaaBase
import Derived.Test.YtdnihlfnglkjiaaAppStr
namespace Go.Proofs.Ytdnihlfnglkjiaa
open Go.RowKit
attribute [local go_sem] alloc_drewN setCell_drewN


/-- Where a text stands first; -1: nowhere. -/
def place (xs : List ByteArray) (s : ByteArray) : Int := match xs.findIdx? (fun x => decide (x = s)) with | some k => k | none => -1
theorem place_at {xs : List ByteArray} {s : ByteArray} {k : Nat} (hk : k < xs.length) (h : ∀ j, j < k → xs.getD j ByteArray.empty ≠ s) (he : xs.getD k ByteArray.empty = s) : place xs s = k := by
  have : xs.findIdx? (fun x => decide (x = s)) = some k := by
    rw [List.findIdx?_eq_some_iff_getElem]
    refine ⟨hk, ?_, fun j hj => ?_⟩
    · rw [List.getD_eq_getElem?_getD, List.getElem?_eq_getElem hk] at he
      exact decide_eq_true he
    · have := h j hj
      rw [List.getD_eq_getElem?_getD, List.getElem?_eq_getElem (by omega)] at this
      simpa using this
  unfold place
  rw [this]
theorem place_not {xs : List ByteArray} {s : ByteArray} (h : ∀ j, j < xs.length → xs.getD j ByteArray.empty ≠ s) : place xs s = -1 := by
  have : xs.findIdx? (fun x => decide (x = s)) = none := by
    rw [List.findIdx?_eq_none_iff]
    intro x hx
    obtain ⟨j, hj, e⟩ := List.mem_iff_getElem.1 hx
    have := h j hj
    rw [List.getD_eq_getElem?_getD, List.getElem?_eq_getElem hj] at this
    rw [← e]
    simpa using this
  unfold place
  rw [this]
def IPost (n : Int) (w : World) (e : Ending) (w' : World) : Prop := e = .returned (.int .i64 n) ∧ ∃ m, w.drewN m = w'
theorem txt_ne {x y : ByteArray} (h : x ≠ y) : (x.toList == y.toList) = false := by
  refine beq_eq_false_iff_ne.2 fun k => h ?_
  rw [ByteArray.toList_eq, ByteArray.toList_eq] at k
  exact WideShapes.bytes_inj k
set_option maxHeartbeats 400000 in
theorem index_any (a : Option Addr) (n c : Nat) (xs : List ByteArray) (s : ByteArray) (w : World) (hl : Strs w a n xs) : Calls Try.prog 26 #[.slice a n c, .string s] w (IPost (place xs s) w) := by
  have HL := Lib.hid hl
  have hn := hl.2.1
  have hlen := hl.1
  clear hl
  subst hlen
  go_enter Try.func26, Try.ntmps26
  go_wp2_with fail
  go_loopw [8] (fun i wr => ∃ (k m : Nat), k ≤ xs.length ∧ i = .int .i64 k ∧ wr = w.drewN m ∧ Hid (∀ j, j < k → xs.getD j ByteArray.empty ≠ s)) (fun i _ => xs.length - (intOf i).toNat)
  case atStart => exact ⟨0, 0, by omega, rfl, rfl, fun j h => absurd h (by omega)⟩
  case round =>
    obtain ⟨k, m, hk, rfl, rfl, HA⟩ := hrel
    by_cases hkn : k < xs.length
    · obtain ⟨bl, off, rfl, hbl, hc⟩ := HL.out.2.2 (by omega)
      have hcell := hc k hkn
      obtain ⟨x, hxe⟩ : ∃ x, x = xs.getD k ByteArray.empty := ⟨_, rfl⟩
      have HXE := Lib.hid hxe
      rw [← hxe] at hcell
      clear hc hxe
      by_cases hx : x = s
      · subst hx
        have HP := Lib.hid (place_at (s := x) hkn HA.out HXE.out.symm)
        go_wp2_with fail
        go_ret
        exact ⟨by rw [HP.out]; rfl, m, rfl⟩
      · have hx' := txt_ne (Ne.symm hx)
        have hnew : Hid (∀ j, j < k + 1 → xs.getD j ByteArray.empty ≠ s) := fun j hj => by
          rcases Nat.lt_or_ge j k with h1 | h1
          · exact HA.out j h1
          · obtain rfl : j = k := by omega
            rw [← HXE.out]
            exact hx
        clear hx
        go_wp2_with fail
        go_roundw
        case rel => exact ⟨k + 1, m, by omega, by go_num, rfl, hnew⟩
        case measure => simp [intOf]; omega
    · obtain rfl : k = xs.length := by omega
      have HP := Lib.hid (place_not HA.out)
      go_wp2_with fail
      go_ret
      exact ⟨by rw [HP.out]; rfl, m, rfl⟩
set_option maxHeartbeats 400000 in
theorem place_any (a : Option Addr) (n c : Nat) (xs : List ByteArray) (s : ByteArray) (w : World) (hl : Strs w a n xs) : Calls Try.prog 27 #[.slice a n c, .string s] w (IPost (place xs s) w) := by
  have HL := Lib.hid hl
  have hn := hl.2.1
  have hlen := hl.1
  clear hl
  subst hlen
  go_enter Try.func27, Try.ntmps27
  go_wp2_with fail
  go_loopw [5] (fun i wr => ∃ (k m : Nat), k ≤ xs.length ∧ i = .int .i64 k ∧ wr = w.drewN m ∧ Hid (∀ j, j < k → xs.getD j ByteArray.empty ≠ s)) (fun i _ => xs.length - (intOf i).toNat)
  case atStart => exact ⟨0, 0, by omega, rfl, rfl, fun j h => absurd h (by omega)⟩
  case round =>
    obtain ⟨k, m, hk, rfl, rfl, HA⟩ := hrel
    by_cases hkn : k < xs.length
    · obtain ⟨bl, off, rfl, hbl, hc⟩ := HL.out.2.2 (by omega)
      have hcell := hc k hkn
      obtain ⟨x, hxe⟩ : ∃ x, x = xs.getD k ByteArray.empty := ⟨_, rfl⟩
      have HXE := Lib.hid hxe
      rw [← hxe] at hcell
      clear hc hxe
      by_cases hx : x = s
      · subst hx
        have HP := Lib.hid (place_at (s := x) hkn HA.out HXE.out.symm)
        go_wp2_with fail
        go_ret
        exact ⟨by rw [HP.out]; rfl, m, rfl⟩
      · have hx' := txt_ne hx
        have hnew : Hid (∀ j, j < k + 1 → xs.getD j ByteArray.empty ≠ s) := fun j hj => by
          rcases Nat.lt_or_ge j k with h1 | h1
          · exact HA.out j h1
          · obtain rfl : j = k := by omega
            rw [← HXE.out]
            exact hx
        clear hx
        go_wp2_with fail
        go_roundw
        case rel => exact ⟨k + 1, m, by omega, by go_num, rfl, hnew⟩
        case measure => simp [intOf]; omega
    · obtain rfl : k = xs.length := by omega
      have HP := Lib.hid (place_not HA.out)
      go_wp2_with fail
      go_ret
      exact ⟨by rw [HP.out]; rfl, m, rfl⟩
end Go.Proofs.Ytdnihlfnglkjiaa
