/- Of any table a text is put in, or refused, and it is swept: the walk. -/
import Derived.Test.YtdnihlfnglkjiaaPlays
namespace Go.Proofs.Ytdnihlfnglkjiaa
open Go.RowKit
attribute [local go_sem] alloc_drewN setCell_drewN


theorem great_at {a b : Option Addr} {n c k d : Nat} {xs : List ByteArray} {w : World} (hn : n ≤ 9223372036854775807) (hl : Strs w b k xs) (hs : ∀ x ∈ xs, x.size ≤ 4611686018427387904) : Calls Try.prog 15 #[.slice a n c, .slice b k d] w (GreatPost n k xs w) := great_any a b n c k d xs w hn hl hs
theorem intern_sizes {xs : List ByteArray} {s : ByteArray} {q : List ByteArray × Int × Int} (h : intern xs s = q) (hs : s.size ≤ 16384) (hx : ∀ x ∈ xs, x.size ≤ 16384) : ∀ j, j < q.1.length → (q.1.getD j ByteArray.empty).size ≤ 16384 := by
  have key : ∀ y ∈ q.1, y.size ≤ 16384 := by
    subst h
    unfold intern
    split
    · simp
    · split
      · exact hx
      · split
        · intro y hy
          rcases List.mem_or_eq_of_mem_set hy with h1 | h1
          · exact hx y h1
          · rw [h1]; exact hs
        · split
          · intro y hy
            rcases List.mem_append.1 hy with h1 | h1
            · exact hx y h1
            · rw [List.mem_singleton.1 h1]; exact hs
          · simp
  intro j hj
  rw [List.getD_eq_getElem?_getD, List.getElem?_eq_getElem hj]
  exact key _ (List.getElem_mem _)
theorem srow_cell {w : World} {base g n c k : Nat} {zs : List ByteArray} (h : SRow w base (.slice (some ⟨g, 0, none⟩) n c) zs) (hk : k < n) : w.cell? ⟨g, k, none⟩ = some (.string (zs.getD k ByteArray.empty)) := by
  obtain ⟨b, off, he, _, hc⟩ := (strs_of h).2.2 (by omega)
  injection he with he
  injection he with h1 h2
  subst h1 h2
  have := hc k hk
  rw [Nat.zero_add] at this
  exact this
def TRel (n k : Nat) (a : Option Addr) (c : Nat) (ys : List ByteArray) (w0 wr : World) : Prop := SRow wr w0.heap.size (.slice a n c) ys ∧ Below w0.heap.size w0 wr ∧ ∀ j, k ≤ j → j < n → (ys.getD j ByteArray.empty).size ≤ 16384
set_option maxRecDepth 10000 in
set_option maxHeartbeats 1000000 in
theorem tables_walk (a : Option Addr) (n c : Nat) (xs : List ByteArray) (sw : Bool) (s : ByteArray) (ua : Option Addr) (ul uc : Nat) (us : List Nat) (w : World) (hl : Strs w a n xs) (hx : ∀ x ∈ xs, x.size ≤ 4611686018427387904) (hs : s.size ≤ 9223372036854775807) (hu : Ints .u16 w ua ul us) (hus : ∀ z ∈ us, z < 65536) :
    Calls Try.prog 4 #[.slice a n c, .agg #[.bool sw, .string s, .slice ua ul uc]] w fun e w' => e = .returned (.bool true) ∧ Below w.heap.size w w' := by
  obtain rfl := hl.1
  have HL := Lib.hid hl
  have HX := Lib.hid hx
  have HU := Lib.hid hu
  have HUS := Lib.hid hus
  have hul := hu.2.1
  clear hl hx hu hus
  go_enter Try.func4, Try.ntmps4
  go_wp2_with fail
  have B0 : Hid (Below w.heap.size w (w.alloc (.cells #[.bool sw, .string s, .slice ua ul uc] 27))) := (Below.refl _ _).alloc (Nat.le_refl _) _
  have hob := Own.new w 27 #[.bool sw, .string s, .slice ua ul uc]
  have hlt : w.heap.size < (w.alloc (.cells #[.bool sw, .string s, .slice ua ul uc] 27)).heap.size := by simp
  generalize w.alloc (.cells #[.bool sw, .string s, .slice ua ul uc] 27) = w0 at B0 hob hlt ⊢
  have o1 := Own.cell hob 1
  have o2 := Own.cell hob 2
  simp only [List.getElem?_toArray, List.getElem?_cons_zero, List.getElem?_cons_succ] at o1 o2
  have HL0 := Lib.hid (HL.out.below B0.out)
  refine (great_any none a 0 0 xs.length c xs _ (by decide) HL0.out HX.out).mono ?_
  rintro e w1 ⟨g, rfl, ⟨m1, rfl⟩, hg⟩
  have HG := Lib.hid hg
  clear hg
  cases g with
  | true =>
    go_wp2_with fail
    refine (fixed_any _).mono ?_
    rintro e w2 ⟨rfl, b2⟩
    have B2 := Lib.hid b2
    clear b2
    go_wp2_with fail
    go_ret
    exact ⟨rfl, (below_drewN B0.out m1).trans (B2.out.mono B0.out.size)⟩
  | false =>
    obtain ⟨_, hn6, hxs⟩ := HG.out rfl
    have HXS := Lib.hid hxs
    clear hxs
    by_cases hbs : 1000 < s.size
    · have hb2 : decide (1000 < (s.size : Int)) = true := decide_eq_true (by omega)
      clear hbs
      go_wp2_with fail
      refine (fixed_any _).mono ?_
      rintro e w2 ⟨rfl, b2⟩
      have B2 := Lib.hid b2
      clear b2
      go_wp2_with fail
      go_ret
      exact ⟨rfl, (below_drewN B0.out m1).trans (B2.out.mono B0.out.size)⟩
    · have hb2 : decide (1000 < (s.size : Int)) = false := decide_eq_false (by omega)
      by_cases hbu : 1000 < ul
      · have hb3 : decide (1000 < (ul : Int)) = true := decide_eq_true (by omega)
        clear hbs hbu
        go_wp2_with fail
        refine (fixed_any _).mono ?_
        rintro e w2 ⟨rfl, b2⟩
        have B2 := Lib.hid b2
        clear b2
        go_wp2_with fail
        go_ret
        exact ⟨rfl, (below_drewN B0.out m1).trans (B2.out.mono B0.out.size)⟩
      · have hb3 : decide (1000 < (ul : Int)) = false := decide_eq_false (by omega)
        have hbs2 : s.size ≤ 16384 := by omega
        clear hbu hbs
        have B1 : Hid (Below w.heap.size w (w0.drewN m1)) := below_drewN B0.out m1
        have HL1 := Lib.hid (HL.out.below B1.out)
        go_wp2_with fail
        refine (copy_any a xs.length c xs _ HL1.out (by omega)).mono ?_
        rintro e w2 ⟨v2, rfl, r2, b2⟩
        have B2 : Hid (Below w.heap.size w w2) := B1.out.trans (b2.mono B0.out.size)
        obtain ⟨oa, oc, rfl, _⟩ := r2.strs
        have R2 : Hid (SRow w2 w0.heap.size (.slice oa xs.length oc) xs) := r2
        have hlt2 : w.heap.size < w2.heap.size := Nat.lt_of_lt_of_le hlt b2.size
        have p1 := (b2.cell (p := ⟨w.heap.size, 1, none⟩) hlt).trans o1
        have p2 := (b2.cell (p := ⟨w.heap.size, 2, none⟩) hlt).trans o2
        clear r2 b2 o1 o2
        obtain ⟨q, hq⟩ : ∃ q, intern xs s = q := ⟨_, rfl⟩
        have HQ := Lib.hid hq
        have hx6 : xs.length ≤ 60000 := Nat.le_trans hn6 (by decide)
        obtain ⟨zs, num, er⟩ := q
        clear hq
        go_wp2_with fail
        refine (intern_at (strs_of R2.out) hx6 hs HQ.out).mono ?_
        rintro e w3 ⟨v3, rfl, r3, b3⟩
        obtain ⟨za, zc, rfl, _⟩ := r3.strs
        have B3 : Hid (Below w.heap.size w w3) := B2.out.trans (b3.mono B2.out.size)
        have O3 := Lib.hid (R2.out.below b3)
        have R3 := Lib.hid r3
        have C3 := Lib.hid b3
        have hlt3 : w.heap.size < w3.heap.size := Nat.lt_of_lt_of_le hlt2 b3.size
        have q1 := (b3.cell (p := ⟨w.heap.size, 1, none⟩) hlt2).trans p1
        have q2 := (b3.cell (p := ⟨w.heap.size, 2, none⟩) hlt2).trans p2
        clear r3 b3 p1 p2
        go_wp2_with fail
        refine (ref_intern_at (HL.out.below B3.out) hx6 hs HQ.out).mono ?_
        rintro e w4 ⟨v4, rfl, r4, b4⟩
        obtain ⟨ya, yc, rfl, _⟩ := r4.strs
        have B4 : Hid (Below w.heap.size w w4) := B3.out.trans (b4.mono B3.out.size)
        have O4 := Lib.hid (O3.out.below b4)
        have Z4 := Lib.hid (R3.out.below b4)
        have R4 := Lib.hid r4
        have C4 : Hid (Below w2.heap.size w2 w4) := C3.out.trans (b4.mono C3.out.size)
        have hlt4 : w.heap.size < w4.heap.size := Nat.lt_of_lt_of_le hlt3 b4.size
        have r1 := (b4.cell (p := ⟨w.heap.size, 1, none⟩) hlt3).trans q1
        have r2 := (b4.cell (p := ⟨w.heap.size, 2, none⟩) hlt3).trans q2
        clear r4 b4 q1 q2
        go_wp2_with fail
        have hn1 : (er != er) = false := by simp
        have hn2 : (num != num) = false := by simp
        have B4d : Hid (Below w.heap.size w w4.drew) := below_drewN B4.out 1
        have O4d : Hid (SRow w4.drew w0.heap.size (.slice oa xs.length oc) xs) := O4.out
        have Z4d : Hid (SRow w4.drew w2.heap.size (.slice za zs.length zc) zs) := Z4.out
        have Y4d : Hid (SRow w4.drew w3.heap.size (.slice ya zs.length yc) zs) := R4.out
        refine wp_region_bits [(0, false), (1, true), (2, true), (3, true), (4, true), (6, true), (7, true), (5, false), (8, false), (9, true), (10, true), (11, true), (12, true), (13, true), (14, true), (15, true), (16, true), (17, true), (18, true), (19, true), (20, true), (21, true), (22, true), (23, true), (24, false), (25, true), (26, true), (27, true), (28, true), (29, true), (30, true), (32, true), (33, true), (34, true), (31, false), (35, false), (36, false), (37, true), (38, true)] [] (by kernel_rfl) (by kernel_rfl) (fun c a d v w h => by cases d <;> exact h) ?_
        simp only [bits_, bitOf, List.getElem?_cons_zero, List.getElem?_cons_succ, List.contains_nil]
        repeat (first | (refine bits_take (v := ?_) (by rfl) ?_ ?_; rotate_left; (· intro w' hS; go_simp; (repeat (rw [hS.at_]; rotate_left; (· go_simp); go_simp)); (try (go_ints; try go_simp)); with_reducible rfl); (try simp only [Act.put, List.setIfInBounds_toArray, List.set_cons_zero, List.set_cons_succ])) | (refine bits_skip (by rfl) ?_; (try simp only [Act.put, List.setIfInBounds_toArray, List.set_cons_zero, List.set_cons_succ])))
        refine bits_eff (by rfl) (fun K hK => ?_)
        go_simp
        (try go_ints)
        refine (fixed_any _).mono ?_
        rintro e w5 ⟨rfl, b5⟩
        have B5 : Hid (Below w.heap.size w w5) := B4d.out.trans (b5.mono B4.out.size)
        have O5 := Lib.hid (O4d.out.below b5)
        have Z5 := Lib.hid (Z4d.out.below b5)
        have Y5 := Lib.hid (Y4d.out.below b5)
        refine hK _ _ ?_ ?_
        · repeat (first | (with_reducible (first | exact Keep.refl _ | refine Keep.left _ ?_ | refine Keep.drew ?_ | refine Keep.drewN ?_ _ | refine Keep.alloc ?_ _)) | (refine Keep.below ?_ (by with_reducible assumption)))
        clear hK K
        (try simp only [Act.put, List.setIfInBounds_toArray, List.set_cons_zero, List.set_cons_succ])
        repeat (first | (refine bits_take (v := ?_) (by rfl) ?_ ?_; rotate_left; (· intro w' hS; go_simp; (repeat (rw [hS.at_]; rotate_left; (· go_simp); go_simp)); (try (go_ints; try go_simp)); with_reducible rfl); (try simp only [Act.put, List.setIfInBounds_toArray, List.set_cons_zero, List.set_cons_succ])) | (refine bits_skip (by rfl) ?_; (try simp only [Act.put, List.setIfInBounds_toArray, List.set_cons_zero, List.set_cons_succ])))
        refine bits_eff (by rfl) (fun K hK => ?_)
        go_simp
        (try go_ints)
        refine (may_any s _ hs).mono ?_
        rintro e w6 ⟨rfl, m6, rfl⟩
        refine hK _ _ ?_ ?_
        · repeat (first | (with_reducible (first | exact Keep.refl _ | refine Keep.left _ ?_ | refine Keep.drew ?_ | refine Keep.drewN ?_ _ | refine Keep.alloc ?_ _)) | (refine Keep.below ?_ (by with_reducible assumption)))
        clear hK K
        (try simp only [Act.put, List.setIfInBounds_toArray, List.set_cons_zero, List.set_cons_succ])
        repeat (first | (refine bits_take (v := ?_) (by rfl) ?_ ?_; rotate_left; (· intro w' hS; go_simp; (repeat (rw [hS.at_]; rotate_left; (· go_simp); go_simp)); (try (go_ints; try go_simp)); with_reducible rfl); (try simp only [Act.put, List.setIfInBounds_toArray, List.set_cons_zero, List.set_cons_succ])) | (refine bits_skip (by rfl) ?_; (try simp only [Act.put, List.setIfInBounds_toArray, List.set_cons_zero, List.set_cons_succ])))
        refine bits_eff (by rfl) (fun K hK => ?_)
        go_simp
        (try go_ints)
        refine (ref_may_any s _ hs).mono ?_
        rintro e w7 ⟨rfl, m7, rfl⟩
        refine hK _ _ ?_ ?_
        · repeat (first | (with_reducible (first | exact Keep.refl _ | refine Keep.left _ ?_ | refine Keep.drew ?_ | refine Keep.drewN ?_ _ | refine Keep.alloc ?_ _)) | (refine Keep.below ?_ (by with_reducible assumption)))
        clear hK K
        (try simp only [Act.put, List.setIfInBounds_toArray, List.set_cons_zero, List.set_cons_succ])
        repeat (first | (refine bits_take (v := ?_) (by rfl) ?_ ?_; rotate_left; (· intro w' hS; go_simp; (repeat (rw [hS.at_]; rotate_left; (· go_simp); go_simp)); (try (go_ints; try go_simp)); with_reducible rfl); (try simp only [Act.put, List.setIfInBounds_toArray, List.set_cons_zero, List.set_cons_succ])) | (refine bits_skip (by rfl) ?_; (try simp only [Act.put, List.setIfInBounds_toArray, List.set_cons_zero, List.set_cons_succ])))
        refine bits_eff (by rfl) (fun K hK => ?_)
        go_simp
        (try go_ints)
        refine (same_at (strs_of (Z5.out.draws _)) (strs_of (Y5.out.draws _)) (decide_eq_true rfl)).mono ?_
        rintro e w8 ⟨rfl, m8, rfl⟩
        refine hK _ _ ?_ ?_
        · repeat (first | (with_reducible (first | exact Keep.refl _ | refine Keep.left _ ?_ | refine Keep.drew ?_ | refine Keep.drewN ?_ _ | refine Keep.alloc ?_ _)) | (refine Keep.below ?_ (by with_reducible assumption)))
        clear hK K
        (try simp only [Act.put, List.setIfInBounds_toArray, List.set_cons_zero, List.set_cons_succ])
        repeat (first | (refine bits_take (v := ?_) (by rfl) ?_ ?_; rotate_left; (· intro w' hS; go_simp; (repeat (rw [hS.at_]; rotate_left; (· go_simp); go_simp)); (try (go_ints; try go_simp)); with_reducible rfl); (try simp only [Act.put, List.setIfInBounds_toArray, List.set_cons_zero, List.set_cons_succ])) | (refine bits_skip (by rfl) ?_; (try simp only [Act.put, List.setIfInBounds_toArray, List.set_cons_zero, List.set_cons_succ])))
        refine bits_eff (by rfl) (fun K hK => ?_)
        go_simp
        (try go_ints)
        have B8 : Hid (Below w.heap.size w (w5.drewN (m6 + m7 + m8))) := below_drewN B5.out _
        refine (sweep_any oa ua xs.length oc ul uc xs us _ (strs_of (O5.out.draws _)) (HU.out.below B8.out) hx6 HUS.out).mono ?_
        rintro e w9 ⟨v9, z9, l9, rfl, t9, y9, r9, b9⟩
        have B9 : Hid (Below w.heap.size w w9) := B8.out.trans (b9.mono B8.out.size)
        have O9 : Hid (SRow w9 w0.heap.size (.slice oa xs.length oc) xs) := SRow.below (O5.out.draws (m6 + m7 + m8)) b9
        have Z9 : Hid (SRow w9 w2.heap.size (.slice za zs.length zc) zs) := SRow.below (Z5.out.draws (m6 + m7 + m8)) b9
        refine hK _ _ ?_ ?_
        · repeat (first | (with_reducible (first | exact Keep.refl _ | refine Keep.left _ ?_ | refine Keep.drew ?_ | refine Keep.drewN ?_ _ | refine Keep.alloc ?_ _)) | (refine Keep.below ?_ (by with_reducible assumption)))
        clear hK K
        (try simp only [Act.put, List.setIfInBounds_toArray, List.set_cons_zero, List.set_cons_succ])
        repeat (first | (refine bits_take (v := ?_) (by rfl) ?_ ?_; rotate_left; (· intro w' hS; go_simp; (repeat (rw [hS.at_]; rotate_left; (· go_simp); go_simp)); (try (go_ints; try go_simp)); with_reducible rfl); (try simp only [Act.put, List.setIfInBounds_toArray, List.set_cons_zero, List.set_cons_succ])) | (refine bits_skip (by rfl) ?_; (try simp only [Act.put, List.setIfInBounds_toArray, List.set_cons_zero, List.set_cons_succ])))
        refine bits_eff (by rfl) (fun K hK => ?_)
        go_simp
        (try go_ints)
        refine (ref_sweep_any a ua xs.length c ul uc xs us _ (HL.out.below B9.out) (HU.out.below B9.out) hx6 HUS.out).mono ?_
        rintro e w10 ⟨v10, z10, l10, rfl, t10, y10, r10, b10⟩
        have B10 : Hid (Below w.heap.size w w10) := B9.out.trans (b10.mono B9.out.size)
        have O10 := Lib.hid (O9.out.below b10)
        have Z10 := Lib.hid (Z9.out.below b10)
        obtain rfl := t9.one t10
        obtain rfl := y9.one y10
        obtain ⟨ys, hys⟩ : ∃ ys, z9.take l9 = ys := ⟨_, rfl⟩
        rw [hys] at r9 r10
        have r9' := r9.below b10
        obtain ⟨a9, c9, rfl, s9⟩ := r9'.strs
        obtain ⟨a10, c10, rfl, s10⟩ := r10.strs
        refine hK _ _ ?_ ?_
        · repeat (first | (with_reducible (first | exact Keep.refl _ | refine Keep.left _ ?_ | refine Keep.drew ?_ | refine Keep.drewN ?_ _ | refine Keep.alloc ?_ _)) | (refine Keep.below ?_ (by with_reducible assumption)))
        clear hK K
        (try simp only [Act.put, List.setIfInBounds_toArray, List.set_cons_zero, List.set_cons_succ])
        repeat (first | (refine bits_take (v := ?_) (by rfl) ?_ ?_; rotate_left; (· intro w' hS; go_simp; (repeat (rw [hS.at_]; rotate_left; (· go_simp); go_simp)); (try (go_ints; try go_simp)); with_reducible rfl); (try simp only [Act.put, List.setIfInBounds_toArray, List.set_cons_zero, List.set_cons_succ])) | (refine bits_skip (by rfl) ?_; (try simp only [Act.put, List.setIfInBounds_toArray, List.set_cons_zero, List.set_cons_succ])))
        refine bits_eff (by rfl) (fun K hK => ?_)
        go_simp
        (try go_ints)
        refine (same_at s9 s10 (decide_eq_true rfl)).mono ?_
        rintro e w11 ⟨rfl, m11, rfl⟩
        refine hK _ _ ?_ ?_
        · repeat (first | (with_reducible (first | exact Keep.refl _ | refine Keep.left _ ?_ | refine Keep.drew ?_ | refine Keep.drewN ?_ _ | refine Keep.alloc ?_ _)) | (refine Keep.below ?_ (by with_reducible assumption)))
        clear hK K
        (try simp only [Act.put, List.setIfInBounds_toArray, List.set_cons_zero, List.set_cons_succ])
        repeat (first | (refine bits_take (v := ?_) (by rfl) ?_ ?_; rotate_left; (· intro w' hS; go_simp; (repeat (rw [hS.at_]; rotate_left; (· go_simp); go_simp)); (try (go_ints; try go_simp)); with_reducible rfl); (try simp only [Act.put, List.setIfInBounds_toArray, List.set_cons_zero, List.set_cons_succ])) | (refine bits_skip (by rfl) ?_; (try simp only [Act.put, List.setIfInBounds_toArray, List.set_cons_zero, List.set_cons_succ])))
        refine bits_nil ?_
        have B11 : Hid (Below w.heap.size w (w10.drewN m11)) := below_drewN B10.out _
        have O11 : Hid (SRow (w10.drewN m11) w0.heap.size (.slice oa xs.length oc) xs) := O10.out.draws _
        have Z11 : Hid (SRow (w10.drewN m11) w2.heap.size (.slice za zs.length zc) zs) := Z10.out.draws _
        have C11 : Hid (Below w2.heap.size w2 (w10.drewN m11)) := below_drewN (((below_drewN (C4.out.trans ((show Below w4.heap.size w4 w5 from ⟨b5.os, b5.tape, b5.output, b5.size, b5.block⟩).mono C4.out.size)) _).trans (b9.mono (by have := C4.out.size; have := b5.size; simp at *; omega))).trans (b10.mono (by have := C4.out.size; have := b5.size; have := b9.size; simp at *; omega))) _
        have HSZ := Lib.hid (intern_sizes HQ.out hbs2 HXS.out)
        have hzl := (strs_of Z11.out).2.1
        clear r9 r9' r10 b5 b9 b10 s9 s10 hys t9 y9
        go_wp2_with fail
        go_loopw [87] (fun i wr => ∃ (k : Nat) (ys : List ByteArray), k ≤ zs.length ∧ i = .int .i64 k ∧ ys.length = zs.length ∧ Hid (TRel zs.length k za zc ys w2 wr)) (fun i _ => zs.length - (intOf i).toNat)
        case atStart => exact ⟨0, zs, by omega, rfl, rfl, ⟨Z11.out, C11.out, fun j _ hj => HSZ.out j hj⟩⟩
        case round =>
          obtain ⟨k, ys, hk, rfl, hyl, HR⟩ := hrel
          by_cases hkn : k < zs.length
          · obtain ⟨g, rfl⟩ := srow_addr HR.out.1 (by omega)
            have e1 := srow_cell HR.out.1 hkn
            obtain ⟨_, f1, hbg, hset⟩ := srow_set HR.out.1 hkn (ys.getD k ByteArray.empty ++ ⟨#[120]⟩)
            have hsz := HR.out.2.2 k (Nat.le_refl _) hkn
            have HN : Hid (TRel zs.length (k + 1) (some ⟨g, 0, none⟩) zc (ys.set k (ys.getD k ByteArray.empty ++ ⟨#[120]⟩)) w2 (wr.setCell ⟨g, k, none⟩ (.string (ys.getD k ByteArray.empty ++ ⟨#[120]⟩)))) := ⟨hset, HR.out.2.1.setCell (p := ⟨g, k, none⟩) hbg _, fun j h1 h2 => by
              rw [List.getD_eq_getElem?_getD, List.getElem?_set_ne (by omega), ← List.getD_eq_getElem?_getD]
              exact HR.out.2.2 j (by omega) h2⟩
            clear hset
            obtain ⟨x, hxe⟩ : ∃ x, ys.getD k ByteArray.empty = x := ⟨_, rfl⟩
            rw [hxe] at e1 hsz HN
            have hyl2 : (ys.set k (x ++ ⟨#[120]⟩)).length = zs.length := by rw [List.length_set]; exact hyl
            go_wp2_with fail
            go_roundw
            case rel => exact ⟨k + 1, _, by omega, by go_num, hyl2, HN⟩
            case measure => simp [intOf]; omega
          · obtain rfl : k = zs.length := by omega
            have BR : Hid (Below w.heap.size w wr) := B2.out.trans (HR.out.2.1.mono B2.out.size)
            go_wp2_with fail
            refine (same_at (Strs.below (strs_of R2.out) HR.out.2.1) (Strs.below HL.out BR.out) (decide_eq_true rfl)).mono ?_
            rintro e w12 ⟨rfl, m12, rfl⟩
            go_wp2_with fail
            go_ret
            exact ⟨rfl, below_drewN BR.out _⟩
end Go.Proofs.Ytdnihlfnglkjiaa
