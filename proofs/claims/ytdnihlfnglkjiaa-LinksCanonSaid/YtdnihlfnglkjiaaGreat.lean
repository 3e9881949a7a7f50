/- The chapter's examples, and what is gone through. -/
import Derived.Test.YtdnihlfnglkjiaaRefIntern
namespace Go.Proofs.Ytdnihlfnglkjiaa
open Go.RowKit
attribute [local go_sem] alloc_drewN setCell_drewN


theorem may_one {c : UInt8} (h1 : 33 ≤ c.toNat) (h2 : c.toNat ≤ 126) : may ⟨#[c]⟩ = true := by
  refine may_yes ⟨by simp [ByteArray.size], by simp [ByteArray.size], fun k h => ?_⟩
  have h3 : (ByteArray.mk #[c]).size = 1 := rfl
  obtain rfl : k = 0 := by omega
  exact ⟨h1, h2⟩
theorem intern_new {xs : List ByteArray} {s : ByteArray} (h0 : may s = true) (h1 : place xs s = -1) (h2 : place xs ByteArray.empty = -1) (h3 : xs.length < 16) : intern xs s = (xs ++ [s], (xs.length : Int) + 1, 0) := by
  unfold intern
  rw [if_neg (by rw [h0]; simp), if_neg (by omega), if_neg (by omega), if_pos h3]
theorem intern_gap {xs : List ByteArray} {s : ByteArray} {k : Nat} (h0 : may s = true) (h1 : place xs s = -1) (h2 : place xs ByteArray.empty = k) : intern xs s = (xs.set k s, (k : Int) + 1, 0) := by
  unfold intern
  rw [if_neg (by rw [h0]; simp), if_neg (by omega), if_pos (by omega), h2]
  rfl
theorem intern_at {a : Option Addr} {n c : Nat} {xs : List ByteArray} {s : ByteArray} {w : World} (hl : Strs w a n xs) (hm : n ≤ 60000) (hs : s.size ≤ 9223372036854775807) {q : List ByteArray × Int × Int} (hq : intern xs s = q) : Calls Try.prog 13 #[.slice a n c, .string s] w (InternPost q w) := by
  subst hq
  exact intern_any a n c xs s w hl hm hs
def tA : ByteArray := ⟨#[97]⟩
def tB : ByteArray := ⟨#[98]⟩
def tC : ByteArray := ⟨#[99]⟩
theorem fix1 : intern [] tA = ([tA], 1, 0) := intern_new (may_one (by decide) (by decide)) rfl rfl (by decide)
theorem fix2 : intern [tA] tB = ([tA, tB], 2, 0) := intern_new (may_one (by decide) (by decide)) (by decide +kernel) (by decide +kernel) (by decide)
theorem fix3 : intern [ByteArray.empty, tB] tC = ([tC, tB], 1, 0) := intern_gap (k := 0) (may_one (by decide) (by decide)) (by decide +kernel) (by decide +kernel)
theorem fix_sweep {zs : List ByteArray} {l : Nat} (h : Masked [tA, tB] [2] 1 zs) (k : Trim zs l) : zs = [ByteArray.empty, tB] ∧ l = 2 := by
  have h0 := (h.2 0 (by decide)).2 (fun ⟨q, h1, h2⟩ => by obtain rfl : q = 0 := by omega
                                                          simp at h2)
  have h1 := (h.2 1 (by decide)).1 ⟨0, by decide, rfl⟩
  have hz : zs = [ByteArray.empty, tB] := same_yes h.1 fun j hj => by
    rw [h.1] at hj
    match j, hj with
    | 0, _ => exact h0
    | 1, _ => exact h1
  refine ⟨hz, ?_⟩
  subst hz
  exact k.one ⟨by decide, fun j h2 h3 => by simp at h3; omega, .inr (by decide +kernel)⟩
theorem one_int (w : World) : Ints .u16 (w.alloc (.cells #[.int .u16 2] 31)) (some ⟨w.heap.size, 0, none⟩) 1 [2] := by
  refine ⟨rfl, by decide, fun _ => ⟨w.heap.size, 0, rfl, by simp, fun i hi => ?_⟩⟩
  obtain rfl : i = 0 := by omega
  exact Own.cell (Own.new w 31 #[.int .u16 2]) 0
set_option maxHeartbeats 1000000 in
theorem fixed_any (w : World) : Calls Try.prog 8 #[] w fun e w' => e = .returned (.bool true) ∧ Below w.heap.size w w' := by
  go_enter Try.func8, Try.ntmps8
  go_wp2_with fail
  refine (intern_at (n := 0) (s := tA) (xs := []) ⟨rfl, by decide, fun h => absurd h (by decide)⟩ (by decide) (by decide) fix1).mono ?_
  rintro e w1 ⟨v1, rfl, r1, b1⟩
  obtain ⟨a1, c1, rfl, s1⟩ := r1.strs
  have R1 := Lib.hid r1
  have S1 := Lib.hid s1
  have B1 := Lib.hid b1
  clear r1 s1 b1
  go_wp2_with fail
  refine (intern_at (s := tB) (xs := [tA]) S1.out (by decide) (by decide) fix2).mono ?_
  rintro e w2 ⟨v2, rfl, r2, b2⟩
  obtain ⟨a2, c2, rfl, s2⟩ := r2.strs
  have S2 := Lib.hid s2
  have B2 : Hid (Below w.heap.size w w2) := B1.out.trans (b2.mono B1.out.size)
  clear r2 s2 b2
  go_wp2_with fail
  have HI : Hid (Ints .u16 (w2.alloc (.cells #[.int .u16 2] 31)) (some ⟨w2.heap.size, 0, none⟩) 1 [2]) := one_int w2
  refine (sweep_any a2 (some ⟨w2.heap.size, 0, none⟩) 2 c2 1 1 [tA, tB] [2] _ (S2.out.alloc _) HI.out (by decide) (by decide)).mono ?_
  rintro e w3 ⟨v3, zs, l, rfl, hm3, ht3, r3, b3⟩
  obtain ⟨rfl, rfl⟩ := fix_sweep hm3 ht3
  obtain ⟨a3, c3, rfl, s3⟩ := r3.strs
  have S3 : Hid (Strs w3 a3 2 [ByteArray.empty, tB]) := s3
  have B3 : Hid (Below w.heap.size w w3) := (B2.out.alloc B2.out.size _).trans (b3.mono (by have := B2.out.size; simp; omega))
  obtain ⟨bg, off, rfl, _, hc⟩ := S3.out.2.2 (by decide)
  have e0 : w3.cell? ⟨bg, off, none⟩ = some (.string ByteArray.empty) := hc 0 (by decide)
  have e1 : w3.cell? ⟨bg, off + 1, none⟩ = some (.string tB) := hc 1 (by decide)
  have hbe : (tB.toList == [98]) = true := by rw [ByteArray.toList_eq]; rfl
  clear hc r3 s3 b3 hm3 ht3
  go_wp2_with fail
  refine (intern_at (s := tC) (xs := [ByteArray.empty, tB]) S3.out (by decide) (by decide) fix3).mono ?_
  rintro e w4 ⟨v4, rfl, r4, b4⟩
  obtain ⟨a4, c4, rfl, _⟩ := r4.strs
  have B4 : Hid (Below w.heap.size w w4) := B3.out.trans (b4.mono B3.out.size)
  clear r4 b4
  go_wp2_with fail
  go_ret
  exact ⟨rfl, B4.out⟩
/-- What is gone through is small. -/
def GreatPost (n k : Nat) (xs : List ByteArray) (w : World) (e : Ending) (w' : World) : Prop := ∃ b : Bool, e = .returned (.bool b) ∧ (∃ m, w.drewN m = w') ∧ (b = false → n ≤ 3000 ∧ k ≤ 16384 ∧ ∀ x ∈ xs, x.size ≤ 16384)
set_option maxHeartbeats 1000000 in
theorem great_any (a b : Option Addr) (n c k d : Nat) (xs : List ByteArray) (w : World) (hn : n ≤ 9223372036854775807) (hl : Strs w b k xs) (hs : ∀ x ∈ xs, x.size ≤ 4611686018427387904) : Calls Try.prog 15 #[.slice a n c, .slice b k d] w (GreatPost n k xs w) := by
  obtain rfl := hl.1
  have HL := Lib.hid hl
  have HS := Lib.hid hs
  have hk := hl.2.1
  clear hl hs
  go_enter Try.func15, Try.ntmps15
  go_wp2_with fail
  go_loopw [5, 10] (fun vn i wr => ∃ (q t m : Nat), q ≤ xs.length ∧ i = .int .i64 q ∧ vn = .int .i64 t ∧ q ≤ t ∧ t ≤ 16384 ∧ Hid (∀ j, j < q → (xs.getD j ByteArray.empty).size ≤ 16384) ∧ wr = w.drewN m) (fun _ i _ => xs.length - (intOf i).toNat)
  case atStart => exact ⟨0, 0, 0, by omega, rfl, rfl, by omega, by omega, fun j h => absurd h (by omega), rfl⟩
  case round =>
    obtain ⟨q, t, m, hq, rfl, rfl, hqt, ht, HA, rfl⟩ := hrel
    by_cases hqn : q < xs.length
    · obtain ⟨bl, off, rfl, hbl, hc⟩ := HL.out.2.2 (by omega)
      have e1 := hc q hqn
      have hx1 : (xs.getD q ByteArray.empty).size ≤ 4611686018427387904 := by
        rw [List.getD_eq_getElem?_getD, List.getElem?_eq_getElem hqn]
        exact HS.out _ (List.getElem_mem _)
      obtain ⟨x, hxe⟩ : ∃ x, xs.getD q ByteArray.empty = x := ⟨_, rfl⟩
      rw [hxe] at e1 hx1
      have HX := Lib.hid hxe
      clear hc hxe
      by_cases hb : t + 1 + x.size ≤ 16384
      · have hnew : Hid (∀ j, j < q + 1 → (xs.getD j ByteArray.empty).size ≤ 16384) := fun j hj => by
          rcases Nat.lt_or_ge j q with h1 | h1
          · exact HA.out j h1
          · obtain rfl : j = q := by omega
            rw [HX.out]
            omega
        have hd : decide (16384 < (t : Int) + (1 + (x.size : Int))) = false := decide_eq_false (by omega)
        go_wp2_with fail
        go_roundw
        case rel => exact ⟨q + 1, t + (1 + x.size), m, by omega, by go_num, by rw [Int.natCast_add, Int.natCast_add]; rfl, by omega, by omega, hnew, rfl⟩
        case measure => simp [intOf]; omega
      · have hd : decide (16384 < (t : Int) + (1 + (x.size : Int))) = true := decide_eq_true (by omega)
        go_wp2_with fail
        go_ret
        exact ⟨true, rfl, ⟨_, rfl⟩, fun h => by cases h⟩
    · obtain rfl : q = xs.length := by omega
      have hall : ∀ x ∈ xs, x.size ≤ 16384 := fun x hx => by
        obtain ⟨j, hj, rfl⟩ := List.mem_iff_getElem.1 hx
        have := HA.out j hj
        rw [List.getD_eq_getElem?_getD, List.getElem?_eq_getElem hj] at this
        exact this
      have HALL := Lib.hid hall
      clear hall
      by_cases hc : 3000 < n
      · have hd : decide (3000 < (n : Int)) = true := decide_eq_true (by omega)
        go_wp2_with fail
        go_ret
        exact ⟨true, by simp, ⟨_, rfl⟩, fun h => by cases h⟩
      · have hd : decide (3000 < (n : Int)) = false := decide_eq_false (by omega)
        go_wp2_with fail
        go_ret
        exact ⟨false, by simp, ⟨_, rfl⟩, fun _ => ⟨by omega, by omega, HALL.out⟩⟩
end Go.Proofs.Ytdnihlfnglkjiaa
