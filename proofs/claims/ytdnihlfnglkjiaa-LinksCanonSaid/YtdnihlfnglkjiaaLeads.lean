/- To where a number leads; does a table have a text. -/
import Derived.Test.YtdnihlfnglkjiaaPlainRight
import Derived.Test.YtdnihlfnglkjiaaGSame
import Derived.Test.YtdnihlfnglkjiaaPlays
namespace Go.Proofs.Ytdnihlfnglkjiaa
open Go.RowKit
attribute [local go_sem] alloc_drewN setCell_drewN


def LPost (s : ByteArray) (w : World) (e : Ending) (w' : World) : Prop := e = .returned (.string s) ∧ ∃ m, w.drewN m = w'
theorem leads_ok {t : List ByteArray} {n : Nat} (h1 : 1 ≤ n) (h2 : n ≤ t.length) (h3 : may (t.getD (n - 1) ByteArray.empty) = true) : leads t n = t.getD (n - 1) ByteArray.empty := by
  unfold leads
  rw [Int.toNat_natCast, if_pos ⟨by omega, by omega, h3⟩]
theorem leads_bad {t : List ByteArray} {n : Nat} (h3 : may (t.getD (n - 1) ByteArray.empty) = false) : leads t n = ByteArray.empty := by
  unfold leads
  rw [Int.toNat_natCast, if_neg fun k => by rw [h3] at k; exact absurd k.2.2 (by simp)]
set_option maxHeartbeats 400000 in
theorem leads_any (a : Option Addr) (c n : Nat) (xs : List ByteArray) (w : World) (hl : Strs w a xs.length xs) (hx : ∀ x ∈ xs, x.size ≤ 4611686018427387904) (hn : n < 65536) : Calls Try.prog 24 #[.slice a xs.length c, .int .u16 n] w (LPost (leads xs n) w) := by
  have HL := Lib.hid hl
  have HX := Lib.hid hx
  have hk := hl.2.1
  clear hl hx
  by_cases h0 : 1 ≤ n
  · obtain ⟨p, rfl⟩ : ∃ p, n = p + 1 := ⟨n - 1, by omega⟩
    have hd0 : ((p : Int) + 1 == 0) = false := beq_eq_false_iff_ne.2 (by omega)
    by_cases h1 : p + 1 ≤ xs.length
    · have hd1 : decide ((xs.length : Int) < (p : Int) + 1) = false := decide_eq_false (by omega)
      obtain ⟨bl, off, rfl, hbl, hc⟩ := HL.out.2.2 (by omega)
      have e1 := hc p (by omega)
      have hs : (xs.getD p ByteArray.empty).size ≤ 4611686018427387904 := by
        rw [getT (by omega)]
        exact HX.out _ (List.getElem_mem _)
      have hp : p < xs.length := by omega
      cases hm : may (xs.getD p ByteArray.empty) with
      | true =>
        have HF := Lib.hid (leads_ok (t := xs) (n := p + 1) h0 h1 (by rw [Nat.add_sub_cancel]; exact hm))
        rw [Nat.add_sub_cancel] at HF
        obtain ⟨x, hxe⟩ : ∃ x, xs.getD p ByteArray.empty = x := ⟨_, rfl⟩
        rw [hxe] at e1 hs hm HF
        have HM := Lib.hid hm
        clear hc hxe h0 hm h1
        go_enter Try.func24, Try.ntmps24
        go_wp2_with fail
        refine (ref_may_at (by omega) HM.out).mono ?_
        rintro e w1 ⟨rfl, m1, rfl⟩
        go_wp2_with fail
        go_ret
        exact ⟨by rw [HF.out]; rfl, m1, rfl⟩
      | false =>
        have HF := Lib.hid (leads_bad (t := xs) (n := p + 1) (by rw [Nat.add_sub_cancel]; exact hm))
        obtain ⟨x, hxe⟩ : ∃ x, xs.getD p ByteArray.empty = x := ⟨_, rfl⟩
        rw [hxe] at e1 hs hm
        have HM := Lib.hid hm
        clear hc hxe h0 hm h1
        go_enter Try.func24, Try.ntmps24
        go_wp2_with fail
        refine (ref_may_at (by omega) HM.out).mono ?_
        rintro e w1 ⟨rfl, m1, rfl⟩
        go_wp2_with fail
        go_ret
        exact ⟨by rw [HF.out]; rfl, m1, rfl⟩
    · have hd1 : decide ((xs.length : Int) < (p : Int) + 1) = true := decide_eq_true (by omega)
      have HF := Lib.hid (leads_out (l := xs) (n := (p + 1 : Nat)) (by omega))
      clear h1 h0
      go_enter Try.func24, Try.ntmps24
      go_wp2_with fail
      go_ret
      exact ⟨by rw [HF.out]; rfl, 0, rfl⟩
  · obtain rfl : n = 0 := by omega
    have HF := Lib.hid (leads_out (l := xs) (n := (0 : Nat)) (by omega))
    go_enter Try.func24, Try.ntmps24
    go_wp2_with fail
    go_ret
    exact ⟨by rw [HF.out]; rfl, 0, rfl⟩
theorem leads_at {a : Option Addr} {c k n : Nat} {xs : List ByteArray} {w : World} (hl : Strs w a k xs) (hx : ∀ x ∈ xs, x.size ≤ 4611686018427387904) (hn : n < 65536) {s : ByteArray} (hs : leads xs n = s) : Calls Try.prog 24 #[.slice a k c, .int .u16 n] w (LPost s w) := by
  subst hs
  obtain rfl := hl.1
  exact leads_any a c n xs w hl hx hn
theorem contains_any (a : Option Addr) (n c : Nat) (xs : List ByteArray) (s : ByteArray) (w : World) (hl : Strs w a n xs) : Calls Try.prog 29 #[.slice a n c, .string s] w (BPost (decide (0 ≤ place xs s)) w) := by
  have HL := Lib.hid hl
  clear hl
  go_enter Try.func29, Try.ntmps29
  go_wp2_with fail
  refine (index_any a n c xs s w HL.out).mono ?_
  rintro e w1 ⟨rfl, m1, rfl⟩
  go_wp2_with fail
  go_ret
  exact ⟨rfl, m1, rfl⟩
end Go.Proofs.Ytdnihlfnglkjiaa
