/- The document's table with a text in it, and its number. -/
import Derived.Test.YtdnihlfnglkjiaaIntern
namespace Go.Proofs.Ytdnihlfnglkjiaa
open Go.RowKit
attribute [local go_sem] alloc_drewN setCell_drewN


theorem ref_may_at {s : ByteArray} {w : World} (hs : s.size ≤ 9223372036854775807) {b : Bool} (hb : may s = b) : Calls Try.prog 17 #[.string s] w (BPost b w) := by
  subst hb
  exact ref_may_any s w hs
theorem place_at2 {a : Option Addr} {n c : Nat} {xs : List ByteArray} {s : ByteArray} {w : World} (hl : Strs w a n xs) {k : Int} (hk : place xs s = k) : Calls Try.prog 27 #[.slice a n c, .string s] w (IPost k w) := by
  subst hk
  exact place_any a n c xs s w hl
set_option maxHeartbeats 1000000 in
theorem ref_intern_any (a : Option Addr) (n c : Nat) (xs : List ByteArray) (s : ByteArray) (w : World) (hl : Strs w a n xs) (hm : n ≤ 60000) (hs : s.size ≤ 9223372036854775807) : Calls Try.prog 14 #[.slice a n c, .string s] w (InternPost (intern xs s) w) := by
  obtain rfl := hl.1
  have HL := Lib.hid hl
  clear hl
  cases hb : may s with
  | false =>
    have HI : Hid (intern xs s = ([], 0, 3)) := if_pos hb
    have HB := Lib.hid hb
    clear hb
    go_enter Try.func14, Try.ntmps14
    go_wp2_with fail
    refine (ref_may_at hs HB.out).mono ?_
    rintro e w1 ⟨rfl, m1, rfl⟩
    go_wp2_with fail
    go_ret3
    rw [HI.out]
    exact ⟨_, rfl, SRow.nil _ _, below_drewN (Below.refl _ _) m1⟩
  | true =>
    have HI0 : Hid (intern xs s = if 0 ≤ place xs s then (xs, place xs s + 1, 0) else if 0 ≤ place xs ByteArray.empty then (xs.set (place xs ByteArray.empty).toNat s, place xs ByteArray.empty + 1, 0) else if xs.length < 16 then (xs ++ [s], (xs.length : Int) + 1, 0) else ([], 0, 11)) := if_neg (by rw [hb]; simp)
    have HB := Lib.hid hb
    clear hb
    go_enter Try.func14, Try.ntmps14
    go_wp2_with fail
    refine (ref_may_at hs HB.out).mono ?_
    rintro e w1 ⟨rfl, m1, rfl⟩
    go_wp2_with fail
    refine (copy_any a xs.length c xs _ (HL.out.below (below_drewN (Below.refl _ _) m1)) (by omega)).mono ?_
    rintro e w2 ⟨v2, rfl, hr2, hb2⟩
    obtain ⟨a2, c2, rfl, hs2⟩ := hr2.strs
    have R2 : Hid (SRow w2 w.heap.size (.slice a2 xs.length c2) xs) := hr2
    have HS2 := Lib.hid hs2
    have B2 : Hid (Below w.heap.size w w2) := (below_drewN (Below.refl _ _) m1).trans hb2
    clear hr2 hs2 hb2
    rcases place_cases xs s with ⟨k, hk, hpk⟩ | hpk
    · have HI := Lib.hid (HI0.out.trans (if_pos (by omega)))
      have HP := Lib.hid hpk
      have hk6 : k ≤ 60000 := by omega
      clear hpk
      go_wp2_with fail
      refine (place_at2 HS2.out HP.out).mono ?_
      rintro e w3 ⟨rfl, m3, rfl⟩
      go_wp2_with fail
      go_ret3
      rw [HI.out, HP.out]
      exact ⟨_, rfl, R2.out.draws m3, below_drewN B2.out m3⟩
    · have HI1 := Lib.hid (HI0.out.trans (if_neg (by omega)))
      have HP := Lib.hid hpk
      clear hpk
      go_wp2_with fail
      refine (place_at2 HS2.out HP.out).mono ?_
      rintro e w3 ⟨rfl, m3, rfl⟩
      go_wp2_with fail
      rcases place_cases xs ByteArray.empty with ⟨k, hk, hpk⟩ | hpk
      · have HI := Lib.hid (HI1.out.trans (if_pos (by omega)))
        have HP2 := Lib.hid hpk
        have hk6 : k ≤ 60000 := by omega
        clear hpk
        refine (place_at2 (HS2.out.below (below_drewN (Below.refl _ _) m3)) HP2.out).mono ?_
        rintro e w4 ⟨rfl, m4, rfl⟩
        obtain ⟨g, rfl⟩ := srow_addr R2.out (show 0 < xs.length by omega)
        obtain ⟨⟨u, hu⟩, hf, hbg, hset⟩ := srow_set R2.out hk s
        have HSET := Lib.hid hset
        clear hset
        go_wp2_with fail
        go_ret3
        rw [HI.out, HP2.out]
        exact ⟨_, rfl, HSET.out.draws _, below_drewN (B2.out.setCell (p := ⟨g, k, none⟩) hbg _) _⟩
      · have HI2 := Lib.hid (HI1.out.trans (if_neg (by omega)))
        have HP2 := Lib.hid hpk
        clear hpk
        refine (place_at2 (HS2.out.below (below_drewN (Below.refl _ _) m3)) HP2.out).mono ?_
        rintro e w4 ⟨rfl, m4, rfl⟩
        by_cases hl16 : xs.length < 16
        · have HI := Lib.hid (HI2.out.trans (if_pos hl16))
          have hl18 : decide ((16 : Int) ≤ (xs.length : Int)) = false := decide_eq_false (by omega)
          go_wp2_with (first
            | (at_builtin; refine app_one rfl _ _ rfl rfl (by exact (R2.out.alloc _).draws _) rfl (by exact Own.cell ((Own.new w2 9 #[.string ByteArray.empty]).draws _) 0) (by omega) (by have := B2.out.size; simp; omega) ?_; intro v5 w5 r5 b5; obtain ⟨a5, c5, rfl, _⟩ := r5.strs; obtain ⟨g, rfl⟩ := srow_addr r5 (by simp); obtain ⟨⟨u, hu⟩, hf, hbg, hset⟩ := srow_set r5 (show xs.length < (xs ++ [ByteArray.empty]).length by simp) s; have HSET := Lib.hid hset; clear hset)
            | go_in)
          go_ret3
          rw [HI.out]
          have h1 := HSET.out
          rw [show (xs ++ [ByteArray.empty]).set xs.length s = xs ++ [s] from by simp, List.length_append] at h1
          exact ⟨_, rfl, h1, ((below_drewN (B2.out.alloc B2.out.size (.cells #[.string ByteArray.empty] 9)) _).trans b5).setCell (p := ⟨g, xs.length, none⟩) hbg _⟩
        · have HI := Lib.hid (HI2.out.trans (if_neg hl16))
          have hl18 : decide ((16 : Int) ≤ (xs.length : Int)) = true := decide_eq_true (by omega)
          have hl17 : decide ((xs.length : Int) < 16) = false := decide_eq_false (by omega)
          clear hl16
          go_wp2_with fail
          go_ret3
          rw [HI.out]
          exact ⟨_, rfl, SRow.nil _ _, below_drewN B2.out _⟩
end Go.Proofs.Ytdnihlfnglkjiaa
