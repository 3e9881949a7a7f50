/- Texts of links: which may be. -/
import Derived.Test.YtdnihlfnglkjiaaRows
import Derived.Test.YtdnihlfnglkjiaaReg
import Derived.Test.YtdnihlfnglkjiaaMem
import Derived.Test.YtdnihlfnglkjiaaInts
import Derived.WalkKit
import Derived.WalkSpells
import Derived.WalkLawsBesides
import Derived.Lib.Hide
import Derived.Deep.Draws
namespace Go.Proofs.Ytdnihlfnglkjiaa
open Go.RowKit
attribute [local go_sem] alloc_drewN setCell_drewN


/-- A text that may be. -/
def May (s : ByteArray) : Prop := 1 ≤ s.size ∧ s.size ≤ 64 ∧ ∀ k (h : k < s.size), 33 ≤ s[k].toNat ∧ s[k].toNat ≤ 126
noncomputable def may (s : ByteArray) : Bool := @decide (May s) (Classical.propDecidable _)
theorem may_yes {s : ByteArray} (h : May s) : may s = true := by unfold may; exact @decide_eq_true _ (Classical.propDecidable _) h
theorem may_no {s : ByteArray} (h : ¬ May s) : may s = false := by unfold may; exact @decide_eq_false _ (Classical.propDecidable _) h
theorem may_iff {s : ByteArray} : may s = true ↔ May s := ⟨fun h => by unfold may at h; exact @of_decide_eq_true _ (Classical.propDecidable _) h, may_yes⟩
def BPost (b : Bool) (w : World) (e : Ending) (w' : World) : Prop := e = .returned (.bool b) ∧ ∃ m, w.drewN m = w'
set_option maxHeartbeats 400000 in
theorem may_any (s : ByteArray) (w : World) (hs : s.size ≤ 9223372036854775807) : Calls Try.prog 16 #[.string s] w (BPost (may s) w) := by
  go_enter Try.func16, Try.ntmps16
  go_wp2_with fail
  go_loopw [6] (fun i wr => ∃ (k m : Nat), k ≤ s.size ∧ i = .int .i64 k ∧ wr = w.drewN m ∧ Hid (∀ j (h : j < s.size), j < k → 33 ≤ s[j].toNat ∧ s[j].toNat ≤ 126)) (fun i _ => s.size - (intOf i).toNat)
  case atStart => exact ⟨0, 0, by omega, rfl, rfl, fun j _ h => absurd h (by omega)⟩
  case round =>
    obtain ⟨k, m, hk, rfl, rfl, HA⟩ := hrel
    by_cases hkn : k < s.size
    · by_cases hg : 33 ≤ s[k].toNat
      · have hd1 : decide (((s[k].toNat : Nat) : Int) < 33) = false := decide_eq_false (by omega)
        by_cases hg2 : s[k].toNat ≤ 126
        · have hd2 : decide (126 < ((s[k].toNat : Nat) : Int)) = false := decide_eq_false (by omega)
          have hnew : Hid (∀ j (h : j < s.size), j < k + 1 → 33 ≤ s[j].toNat ∧ s[j].toNat ≤ 126) := fun j h hj => by
            rcases Nat.lt_or_ge j k with h1 | h1
            · exact HA.out j h h1
            · obtain rfl : j = k := by omega
              exact ⟨hg, hg2⟩
          clear hg hg2
          go_wp2_with fail
          go_roundw
          case rel => exact ⟨k + 1, m, by omega, by go_num, rfl, hnew⟩
          case measure => simp [intOf]; omega
        · have hd2 : decide (126 < ((s[k].toNat : Nat) : Int)) = true := decide_eq_true (by omega)
          have HF := Lib.hid (may_no (s := s) (fun h => hg2 (h.2.2 k hkn).2))
          clear hg hg2
          go_wp2_with fail
          go_ret
          exact ⟨by rw [HF.out]; rfl, _, rfl⟩
      · have hd1 : decide (((s[k].toNat : Nat) : Int) < 33) = true := decide_eq_true (by omega)
        have HF := Lib.hid (may_no (s := s) (fun h => hg (h.2.2 k hkn).1))
        clear hg
        go_wp2_with fail
        go_ret
        exact ⟨by rw [HF.out]; rfl, _, rfl⟩
    · obtain rfl : k = s.size := by omega
      by_cases h1 : 1 ≤ s.size
      · have hd1 : decide ((1 : Int) ≤ (s.size : Int)) = true := decide_eq_true (by omega)
        by_cases h2 : s.size ≤ 64
        · have hd2 : decide ((s.size : Int) ≤ 64) = true := decide_eq_true (by omega)
          have HF := Lib.hid (may_yes (s := s) ⟨h1, h2, fun j h => HA.out j h h⟩)
          go_wp2_with fail
          go_ret
          exact ⟨by rw [HF.out]; rfl, _, rfl⟩
        · have hd2 : decide ((s.size : Int) ≤ 64) = false := decide_eq_false (by omega)
          have HF := Lib.hid (may_no (s := s) (fun h => h2 h.2.1))
          clear h2
          go_wp2_with fail
          go_ret
          exact ⟨by rw [HF.out]; rfl, _, rfl⟩
      · have hd1 : decide ((1 : Int) ≤ (s.size : Int)) = false := decide_eq_false (by omega)
        have HF := Lib.hid (may_no (s := s) (fun h => h1 h.1))
        clear h1
        go_wp2_with fail
        go_ret
        exact ⟨by rw [HF.out]; rfl, _, rfl⟩
set_option maxHeartbeats 400000 in
theorem ref_may_any (s : ByteArray) (w : World) (hs : s.size ≤ 9223372036854775807) : Calls Try.prog 17 #[.string s] w (BPost (may s) w) := by
  by_cases h1 : s.size = 0
  · have hd1 : ((s.size : Int) == 0) = true := by rw [h1]; rfl
    have HF := Lib.hid (may_no (s := s) (fun h => by have := h.1; omega))
    clear h1
    go_enter Try.func17, Try.ntmps17
    go_wp2_with fail
    go_ret
    exact ⟨by rw [HF.out]; rfl, 0, rfl⟩
  · have hd1 : ((s.size : Int) == 0) = false := beq_eq_false_iff_ne.2 (fun k => h1 (by omega))
    have H1 := Lib.hid h1
    clear h1
    by_cases h2 : s.size ≤ 64
    · have hd2 : decide (64 < (s.size : Int)) = false := decide_eq_false (by omega)
      go_enter Try.func17, Try.ntmps17
      go_wp2_with fail
      go_loopw [3] (fun i wr => ∃ (k m : Nat), k ≤ s.size ∧ i = .int .i64 k ∧ wr = w.drewN m ∧ Hid (∀ j (h : j < s.size), j < k → 33 ≤ s[j].toNat ∧ s[j].toNat ≤ 126)) (fun i _ => s.size - (intOf i).toNat)
      case atStart => exact ⟨0, 0, by omega, rfl, rfl, fun j _ h => absurd h (by omega)⟩
      case round =>
        obtain ⟨k, m, hk, rfl, rfl, HA⟩ := hrel
        by_cases hkn : k < s.size
        · by_cases hg : 33 ≤ s[k].toNat
          · have hd3 : decide (((s[k].toNat : Nat) : Int) ≤ 32) = false := decide_eq_false (by omega)
            by_cases hg2 : s[k].toNat ≤ 126
            · have hd4 : decide (127 ≤ ((s[k].toNat : Nat) : Int)) = false := decide_eq_false (by omega)
              have hnew : Hid (∀ j (h : j < s.size), j < k + 1 → 33 ≤ s[j].toNat ∧ s[j].toNat ≤ 126) := fun j h hj => by
                rcases Nat.lt_or_ge j k with h1 | h1
                · exact HA.out j h h1
                · obtain rfl : j = k := by omega
                  exact ⟨hg, hg2⟩
              clear hg hg2
              go_wp2_with fail
              go_roundw
              case rel => exact ⟨k + 1, m, by omega, by go_num, rfl, hnew⟩
              case measure => simp [intOf]; omega
            · have hd4 : decide (127 ≤ ((s[k].toNat : Nat) : Int)) = true := decide_eq_true (by omega)
              have HF := Lib.hid (may_no (s := s) (fun h => hg2 (h.2.2 k hkn).2))
              clear hg hg2
              go_wp2_with fail
              go_ret
              exact ⟨by rw [HF.out]; rfl, _, rfl⟩
          · have hd3 : decide (((s[k].toNat : Nat) : Int) ≤ 32) = true := decide_eq_true (by omega)
            have HF := Lib.hid (may_no (s := s) (fun h => hg (h.2.2 k hkn).1))
            clear hg
            go_wp2_with fail
            go_ret
            exact ⟨by rw [HF.out]; rfl, _, rfl⟩
        · obtain rfl : k = s.size := by omega
          have HF := Lib.hid (may_yes (s := s) ⟨by have := H1.out; omega, h2, fun j h => HA.out j h h⟩)
          go_wp2_with fail
          go_ret
          exact ⟨by rw [HF.out]; rfl, _, rfl⟩
    · have hd2 : decide (64 < (s.size : Int)) = true := decide_eq_true (by omega)
      have HF := Lib.hid (may_no (s := s) (fun h => h2 h.2.1))
      clear h2
      go_enter Try.func17, Try.ntmps17
      go_wp2_with fail
      go_ret
      exact ⟨by rw [HF.out]; rfl, 0, rfl⟩
end Go.Proofs.Ytdnihlfnglkjiaa
