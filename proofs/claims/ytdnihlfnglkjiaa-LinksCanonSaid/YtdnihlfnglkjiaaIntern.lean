/- A table with a text in it, and its number. -/
import Derived.Test.YtdnihlfnglkjiaaRefSweep
namespace Go.Proofs.Ytdnihlfnglkjiaa
open Go.RowKit
attribute [local go_sem] alloc_drewN setCell_drewN


/-- The table, the number, the error's number. -/
noncomputable def intern (xs : List ByteArray) (s : ByteArray) : List ByteArray × Int × Int :=
  if may s = false then ([], 0, 3) else if 0 ≤ place xs s then (xs, place xs s + 1, 0) else if 0 ≤ place xs ByteArray.empty then (xs.set (place xs ByteArray.empty).toNat s, place xs ByteArray.empty + 1, 0)
  else if xs.length < 16 then (xs ++ [s], (xs.length : Int) + 1, 0) else ([], 0, 11)
theorem place_cases (xs : List ByteArray) (s : ByteArray) : (∃ k : Nat, k < xs.length ∧ place xs s = k) ∨ place xs s = -1 := by
  unfold place
  cases h : xs.findIdx? (fun x => decide (x = s)) with
  | none => exact .inr rfl
  | some k => exact .inl ⟨k, (List.findIdx?_eq_some_iff_getElem.1 h).1, rfl⟩
def InternPost (q : List ByteArray × Int × Int) (w : World) (e : Ending) (w' : World) : Prop := ∃ v', e = .returned (.tuple #[v', .int .u16 q.2.1, .int .i64 q.2.2]) ∧ SRow w' w.heap.size v' q.1 ∧ Below w.heap.size w w'
theorem may_at {s : ByteArray} {w : World} (hs : s.size ≤ 9223372036854775807) {b : Bool} (hb : may s = b) : Calls Try.prog 16 #[.string s] w (BPost b w) := by
  subst hb
  exact may_any s w hs
theorem index_at {a : Option Addr} {n c : Nat} {xs : List ByteArray} {s : ByteArray} {w : World} (hl : Strs w a n xs) {k : Int} (hk : place xs s = k) : Calls Try.prog 26 #[.slice a n c, .string s] w (IPost k w) := by
  subst hk
  exact index_any a n c xs s w hl
theorem take_set (L : List Value) (m k : Nat) (u : Value) : (L.set k u).take m = (L.take m).set k u := by
  refine List.ext_getElem? fun j => ?_
  rw [List.getElem?_take, List.getElem?_set, List.getElem?_set, List.getElem?_take, List.length_take]
  by_cases h1 : j < m
  · rw [if_pos h1, if_pos h1]
    by_cases h2 : k = j
    · rw [if_pos h2, if_pos h2]
      by_cases h3 : k < L.length
      · rw [if_pos h3, if_pos (by omega)]
      · rw [if_neg h3, if_neg (by omega)]
    · rw [if_neg h2, if_neg h2]
  · rw [if_neg h1, if_neg h1]
    by_cases h2 : k = j
    · rw [if_pos h2, if_neg (by omega)]
    · rw [if_neg h2]
theorem srow_addr {w : World} {base n c : Nat} {a : Option Addr} {zs : List ByteArray} (h : SRow w base (.slice a n c) zs) (h0 : 0 < n) : ∃ g, a = some ⟨g, 0, none⟩ := by
  rcases h.2 with ⟨h1, h2⟩ | ⟨g, cap, cur, h1, _⟩
  · injection h1 with _ h1 _
    omega
  · injection h1 with h1 _ _
    exact ⟨g, h1⟩
theorem srow_set {w : World} {base g n c k : Nat} {zs : List ByteArray} (h : SRow w base (.slice (some ⟨g, 0, none⟩) n c) zs) (hk : k < n) (s : ByteArray) :
    (∃ u, w.cell? ⟨g, k, none⟩ = some u) ∧ w.frozen? ⟨g, k, none⟩ = false ∧ base ≤ g ∧ SRow (w.setCell ⟨g, k, none⟩ (.string s)) base (.slice (some ⟨g, 0, none⟩) n c) (zs.set k s) := by
  have hz : zs.length = n := by
    rcases h.2 with ⟨h1, _⟩ | ⟨g, cap, cur, h1, _⟩
    · cases h1
    · injection h1 with _ h1 _
      exact h1.symm
  rcases h.2 with ⟨h1, _⟩ | ⟨g', cap, cur, h1, h2, h3, h4, h5, h6, h7⟩
  · cases h1
  · injection h1 with h0 h1 h8
    injection h0 with h0
    injection h0 with h0
    subst h0 h8
    have ho : Own w g 9 cur := h3
    refine ⟨⟨cur[k]'(by omega), by rw [Own.cell ho k]; exact Array.getElem?_eq_getElem (by omega)⟩, Own.frozen ho k, h2, by simp [strs], .inr ⟨g, c, _, by rw [List.length_set, hz], h2, ho.store k (.string s), by rw [List.length_set]; omega, h5, by simp; omega, ?_⟩⟩
    rw [List.length_set, hz]
    rw [hz] at h7
    have : strs (zs.set k s) = (strs zs).set k (.string s) := by simp [strs, List.map_set]
    rw [this, ← h7, Array.toList_setIfInBounds]
    exact take_set _ _ _ _
set_option maxHeartbeats 1000000 in
theorem intern_any (a : Option Addr) (n c : Nat) (xs : List ByteArray) (s : ByteArray) (w : World) (hl : Strs w a n xs) (hm : n ≤ 60000) (hs : s.size ≤ 9223372036854775807) : Calls Try.prog 13 #[.slice a n c, .string s] w (InternPost (intern xs s) w) := by
  obtain rfl := hl.1
  have HL := Lib.hid hl
  clear hl
  cases hb : may s with
  | false =>
    have HI : Hid (intern xs s = ([], 0, 3)) := if_pos hb
    have HB := Lib.hid hb
    clear hb
    go_enter Try.func13, Try.ntmps13
    go_wp2_with fail
    refine (may_at hs HB.out).mono ?_
    rintro e w1 ⟨rfl, m1, rfl⟩
    go_wp2_with fail
    go_ret3
    rw [HI.out]
    exact ⟨_, rfl, SRow.nil _ _, below_drewN (Below.refl _ _) m1⟩
  | true =>
    have HI0 : Hid (intern xs s = if 0 ≤ place xs s then (xs, place xs s + 1, 0) else if 0 ≤ place xs ByteArray.empty then (xs.set (place xs ByteArray.empty).toNat s, place xs ByteArray.empty + 1, 0) else if xs.length < 16 then (xs ++ [s], (xs.length : Int) + 1, 0) else ([], 0, 11)) := if_neg (by rw [hb]; simp)
    have HB := Lib.hid hb
    clear hb
    go_enter Try.func13, Try.ntmps13
    go_wp2_with fail
    refine (may_at hs HB.out).mono ?_
    rintro e w1 ⟨rfl, m1, rfl⟩
    go_wp2_with fail
    refine (clone_any a xs.length c xs _ (HL.out.below (below_drewN (Below.refl _ _) m1)) (by omega)).mono ?_
    rintro e w2 ⟨v2, rfl, hr2, hb2⟩
    obtain ⟨a2, c2, rfl, hs2⟩ := hr2.strs
    have R2 : Hid (SRow w2 w.heap.size (.slice a2 xs.length c2) xs) := hr2
    have HS2 := Lib.hid hs2
    have B2 : Hid (Below w.heap.size w w2) := (below_drewN (Below.refl _ _) m1).trans hb2
    clear hr2 hs2 hb2
    rcases place_cases xs s with ⟨k, hk, hpk⟩ | hpk
    · have HI := Lib.hid (HI0.out.trans (if_pos (by omega)))
      have HP := Lib.hid hpk
      have hk6 : k ≤ 60000 := by omega
      clear hpk
      go_wp2_with fail
      refine (index_at HS2.out HP.out).mono ?_
      rintro e w3 ⟨rfl, m3, rfl⟩
      go_wp2_with fail
      go_ret3
      rw [HI.out, HP.out]
      exact ⟨_, rfl, R2.out.draws m3, below_drewN B2.out m3⟩
    · have HI1 := Lib.hid (HI0.out.trans (if_neg (by omega)))
      have HP := Lib.hid hpk
      clear hpk
      go_wp2_with fail
      refine (index_at HS2.out HP.out).mono ?_
      rintro e w3 ⟨rfl, m3, rfl⟩
      go_wp2_with fail
      rcases place_cases xs ByteArray.empty with ⟨k, hk, hpk⟩ | hpk
      · have HI := Lib.hid (HI1.out.trans (if_pos (by omega)))
        have HP2 := Lib.hid hpk
        have hk6 : k ≤ 60000 := by omega
        clear hpk
        refine (index_at (HS2.out.below (below_drewN (Below.refl _ _) m3)) HP2.out).mono ?_
        rintro e w4 ⟨rfl, m4, rfl⟩
        obtain ⟨g, rfl⟩ := srow_addr R2.out (show 0 < xs.length by omega)
        obtain ⟨⟨u, hu⟩, hf, hbg, hset⟩ := srow_set R2.out hk s
        have HSET := Lib.hid hset
        clear hset
        go_wp2_with fail
        go_ret3
        rw [HI.out, HP2.out]
        exact ⟨_, rfl, HSET.out.draws _, below_drewN (B2.out.setCell (p := ⟨g, k, none⟩) hbg _) _⟩
      · have HI2 := Lib.hid (HI1.out.trans (if_neg (by omega)))
        have HP2 := Lib.hid hpk
        clear hpk
        refine (index_at (HS2.out.below (below_drewN (Below.refl _ _) m3)) HP2.out).mono ?_
        rintro e w4 ⟨rfl, m4, rfl⟩
        by_cases hl16 : xs.length < 16
        · have HI := Lib.hid (HI2.out.trans (if_pos hl16))
          go_wp2_with (first
            | (at_builtin; refine app_one rfl _ _ rfl rfl (by exact (R2.out.alloc _).draws _) rfl (by exact Own.cell ((Own.new w2 9 #[.string s]).draws _) 0) (by omega) (by have := B2.out.size; simp; omega) ?_; intro v5 w5 r5 b5)
            | go_in)
          go_ret3
          rw [HI.out]
          exact ⟨_, rfl, r5, (below_drewN (B2.out.alloc B2.out.size _) _).trans b5⟩
        · have HI := Lib.hid (HI2.out.trans (if_neg hl16))
          have hl17 : decide ((xs.length : Int) < 16) = false := decide_eq_false (by omega)
          clear hl16
          go_wp2_with fail
          go_ret3
          rw [HI.out]
          exact ⟨_, rfl, SRow.nil _ _, below_drewN B2.out _⟩
end Go.Proofs.Ytdnihlfnglkjiaa
