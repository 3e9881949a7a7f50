/- Every row of texts put in and of sweeps is answered as the document says: the walk. -/
import Derived.Test.YtdnihlfnglkjiaaGreat
import Derived.Test.YtdnihlfnglkjiaaLOps
namespace Go.Proofs.Ytdnihlfnglkjiaa
open Go.RowKit
attribute [local go_sem] alloc_drewN setCell_drewN


theorem intern_len {xs : List ByteArray} {s : ByteArray} {q : List ByteArray × Int × Int} (h : intern xs s = q) (hx : xs.length ≤ 16) : q.1.length ≤ 16 := by
  subst h
  unfold intern
  split
  · simp
  · split
    · exact hx
    · split
      · simpa using hx
      · split
        · simp; omega
        · simp
theorem ref_intern_at {a : Option Addr} {n c : Nat} {xs : List ByteArray} {s : ByteArray} {w : World} (hl : Strs w a n xs) (hm : n ≤ 60000) (hs : s.size ≤ 9223372036854775807) {q : List ByteArray × Int × Int} (hq : intern xs s = q) : Calls Try.prog 14 #[.slice a n c, .string s] w (InternPost q w) := by
  subst hq
  exact ref_intern_any a n c xs s w hl hm hs
/-- Two tables of the same texts. -/
def PRel (w : World) (t m : Value) (xs : List ByteArray) (wr : World) : Prop := SRow wr 0 t xs ∧ SRow wr 0 m xs ∧ xs.length ≤ 16 ∧ Below w.heap.size w wr
theorem Ints.below {k : IntKind} {w w' : World} {a : Option Addr} {n : Nat} {zs : List Nat} (h : Ints k w a n zs) (hb : Below w.heap.size w w') : Ints k w' a n zs := by
  refine ⟨h.1, h.2.1, fun h0 => ?_⟩
  obtain ⟨b, off, he, hb', hc⟩ := h.2.2 h0
  exact ⟨b, off, he, Nat.lt_of_lt_of_le hb' hb.size, fun i hi => (hb.cell hb').trans (hc i hi)⟩
theorem same_at {a b : Option Addr} {n c k d : Nat} {xs ys : List ByteArray} {w : World} (hl : Strs w a n xs) (hk : Strs w b k ys) {t : Bool} (ht : decide (xs = ys) = t) : Calls Try.prog 12 #[.slice a n c, .slice b k d] w (BPost t w) := by
  subst ht
  exact same_any a b n c k d xs ys w hl hk
theorem strs_of {w : World} {base n c : Nat} {a : Option Addr} {xs : List ByteArray} (h : SRow w base (.slice a n c) xs) : Strs w a n xs := by
  obtain ⟨a', c', h1, h2⟩ := h.strs
  injection h1 with h3 h4 h5
  subst h3 h4
  exact h2
theorem PRel.pass {w wr w1 : World} {t m : Value} {xs : List ByteArray} (h : PRel w t m xs wr) (hb : Below wr.heap.size wr w1) : PRel w t m xs w1 := ⟨h.1.below hb, h.2.1.below hb, h.2.2.1, h.2.2.2.trans (hb.mono h.2.2.2.size)⟩
set_option maxRecDepth 10000 in
set_option maxHeartbeats 1000000 in
theorem plays_walk (a : Option Addr) (n c : Nat) (F : Nat → Bool × ByteArray × Option Addr × Nat × Nat × List Nat) (w : World) (hl : LOps w a n F) : Calls Try.prog 3 #[.slice a n c] w fun e w' => e = .returned (.bool true) ∧ Below w.heap.size w w' := by
  have HL := Lib.hid hl
  have hn := hl.1
  clear hl
  go_enter Try.func3, Try.ntmps3
  go_wp2_with fail
  refine (fixed_any _).mono ?_
  rintro e w2 ⟨rfl, hb2⟩
  have HB : Hid (PRel w (.slice none 0 0) (.slice none 0 0) [] w2) := ⟨SRow.nil _ _, SRow.nil _ _, by decide, hb2⟩
  clear hb2
  go_wp2_with fail
  go_loopw [3, 4, 18] (fun tv mv i wr => ∃ (k : Nat) (xs : List ByteArray), k ≤ n ∧ i = .int .i64 k ∧ Hid (PRel w tv mv xs wr)) (fun _ _ i _ => n - (intOf i).toNat)
  case atStart => exact ⟨0, [], by omega, rfl, HB⟩
  case round =>
    obtain ⟨k, xs, hk, rfl, HR⟩ := hrel
    obtain ⟨ta, tc, rfl, hst⟩ := HR.out.1.strs
    obtain ⟨ma, mc, rfl, hsm⟩ := HR.out.2.1.strs
    have HST := Lib.hid hst
    have HSM := Lib.hid hsm
    have hx16 := HR.out.2.2.1
    have hd16 : decide ((xs.length : Int) ≤ 16) = true := decide_eq_true (by omega)
    clear hst hsm HB
    by_cases hkn : k < n
    · obtain ⟨b, off, rfl, hbl, hc⟩ := HL.out.2 (by omega)
      obtain ⟨h0, h1, h2, h3, h4, h5⟩ := hc k hkn
      obtain ⟨q, hq⟩ : ∃ q, F k = q := ⟨_, rfl⟩
      rw [hq] at h0 h1 h2 h3 h4 h5
      clear hq hc
      obtain ⟨sw, s, ua, ul, uc, us⟩ := q
      simp only at h0 h1 h2 h3 h4 h5
      rw [← HR.out.2.2.2.cell hbl] at h0 h1 h3
      have HU := Lib.hid h4
      have HUS := Lib.hid h5
      have hul := h4.2.1
      clear h4 h5
      by_cases hbr : 200 < k
      · have hb1 : decide (200 < (k : Int)) = true := decide_eq_true (by omega)
        clear hbr
        go_wp2_with fail
        go_ret
        exact ⟨rfl, HR.out.2.2.2.alloc HR.out.2.2.2.size _⟩
      · have hb1 : decide (200 < (k : Int)) = false := decide_eq_false (by omega)
        by_cases hbs : 1000 < s.size
        · have hb2 : decide (1000 < (s.size : Int)) = true := decide_eq_true (by omega)
          clear hbr hbs
          go_wp2_with fail
          go_ret
          exact ⟨rfl, HR.out.2.2.2.alloc HR.out.2.2.2.size _⟩
        · have hb2 : decide (1000 < (s.size : Int)) = false := decide_eq_false (by omega)
          by_cases hbu : 1000 < ul
          · have hb3 : decide (1000 < (ul : Int)) = true := decide_eq_true (by omega)
            clear hbr hbs hbu
            go_wp2_with fail
            go_ret
            exact ⟨rfl, HR.out.2.2.2.alloc HR.out.2.2.2.size _⟩
          · have hb3 : decide (1000 < (ul : Int)) = false := decide_eq_false (by omega)
            have HA : ∀ o, Hid (PRel w (.slice ta xs.length tc) (.slice ma xs.length mc) xs (wr.alloc o)) := fun o => ⟨HR.out.1.alloc o, HR.out.2.1.alloc o, HR.out.2.2.1, HR.out.2.2.2.alloc HR.out.2.2.2.size o⟩
            have HAA := Lib.hid HA
            clear HA hbr hbs hbu
            go_wp2_with fail
            refine (copy_any ta xs.length tc xs _ (HST.out.alloc _) (by omega)).mono ?_
            rintro e w3 ⟨v3, rfl, r3, b3⟩
            have HP3 := Lib.hid ((HAA.out _).out.pass b3)
            have hlt : wr.heap.size < w3.heap.size := Nat.lt_of_lt_of_le (by simp) b3.size
            have hob := Own.below (Own.new wr 27 #[.bool sw, .string s, .slice ua ul uc]) b3 (by simp)
            have o0 := Own.cell hob 0
            have o1 := Own.cell hob 1
            have o2 := Own.cell hob 2
            simp only [List.getElem?_toArray, List.getElem?_cons_zero, List.getElem?_cons_succ] at o0 o1 o2
            obtain ⟨wa, wc, rfl, _⟩ := r3.strs
            have R3 := Lib.hid r3
            clear r3 b3 hob
            cases sw with
            | true =>
              have HP4 : Hid (PRel w (.slice ta xs.length tc) (.slice ma xs.length mc) xs w3.drew) := HP3.out.pass (below_drewN (Below.refl _ _) 1)
              have HU3 := Lib.hid (HU.out.below HP4.out.2.2.2)
              go_wp2_with fail
              refine wp_region_bits [(0, true), (1, true), (2, true), (4, true), (5, true), (6, true), (3, false), (7, false), (8, true), (9, true)] [] (by kernel_rfl) (by kernel_rfl) (fun c a d v w h => by cases d <;> exact h) ?_
              simp only [bits_, bitOf, List.getElem?_cons_zero, List.getElem?_cons_succ, List.contains_nil]
              repeat (first | (refine bits_take (v := ?_) (by rfl) ?_ ?_; rotate_left; (· intro w' hS; go_simp; (repeat (rw [hS.at_]; rotate_left; (· go_simp); go_simp)); (try (go_ints; try go_simp)); with_reducible rfl); (try simp only [Act.put, List.setIfInBounds_toArray, List.set_cons_zero, List.set_cons_succ])) | (refine bits_skip (by rfl) ?_; (try simp only [Act.put, List.setIfInBounds_toArray, List.set_cons_zero, List.set_cons_succ])))
              refine bits_eff (by rfl) (fun K hK => ?_)
              go_simp
              (try go_ints)
              refine (sweep_any ta ua xs.length tc ul uc xs us _ (strs_of HP4.out.1) HU3.out (by omega) HUS.out).mono ?_
              rintro e w4 ⟨v4, z4, l4, rfl, m4, t4, r4, b4⟩
              have HP5 := Lib.hid (HP4.out.pass b4)
              have HU5 := Lib.hid (HU.out.below HP5.out.2.2.2)
              refine hK _ _ ?_ ?_
              · repeat (first | (with_reducible (first | exact Keep.refl _ | refine Keep.left _ ?_ | refine Keep.drew ?_ | refine Keep.drewN ?_ _ | refine Keep.alloc ?_ _)) | (refine Keep.below ?_ (by assumption)))
              clear hK K
              (try simp only [Act.put, List.setIfInBounds_toArray, List.set_cons_zero, List.set_cons_succ])
              repeat (first | (refine bits_take (v := ?_) (by rfl) ?_ ?_; rotate_left; (· intro w' hS; go_simp; (repeat (rw [hS.at_]; rotate_left; (· go_simp); go_simp)); (try (go_ints; try go_simp)); with_reducible rfl); (try simp only [Act.put, List.setIfInBounds_toArray, List.set_cons_zero, List.set_cons_succ])) | (refine bits_skip (by rfl) ?_; (try simp only [Act.put, List.setIfInBounds_toArray, List.set_cons_zero, List.set_cons_succ])))
              refine bits_eff (by rfl) (fun K hK => ?_)
              go_simp
              (try go_ints)
              refine (ref_sweep_any ma ua xs.length mc ul uc xs us _ (strs_of HP5.out.2.1) HU5.out (by omega) HUS.out).mono ?_
              rintro e w5 ⟨v5, z5, l5, rfl, m5, t5, r5, b5⟩
              refine hK _ _ ?_ ?_
              · repeat (first | (with_reducible (first | exact Keep.refl _ | refine Keep.left _ ?_ | refine Keep.drew ?_ | refine Keep.drewN ?_ _ | refine Keep.alloc ?_ _)) | (refine Keep.below ?_ (by assumption)))
              clear hK K
              (try simp only [Act.put, List.setIfInBounds_toArray, List.set_cons_zero, List.set_cons_succ])
              repeat (first | (refine bits_take (v := ?_) (by rfl) ?_ ?_; rotate_left; (· intro w' hS; go_simp; (repeat (rw [hS.at_]; rotate_left; (· go_simp); go_simp)); (try (go_ints; try go_simp)); with_reducible rfl); (try simp only [Act.put, List.setIfInBounds_toArray, List.set_cons_zero, List.set_cons_succ])) | (refine bits_skip (by rfl) ?_; (try simp only [Act.put, List.setIfInBounds_toArray, List.set_cons_zero, List.set_cons_succ])))
              refine bits_nil ?_
              obtain rfl := m4.one m5
              obtain rfl := t4.one t5
              have hll : (z4.take l4).length ≤ 16 := by rw [List.length_take, m4.1]; omega
              have R4 := (r4.below b5).up (Nat.zero_le _)
              have R5 := r5.up (Nat.zero_le _)
              obtain ⟨a4, c4, rfl, s4⟩ := R4.strs
              obtain ⟨a5, c5, rfl, s5⟩ := R5.strs
              obtain ⟨ys, hys⟩ : ∃ ys, z4.take l4 = ys := ⟨_, rfl⟩
              rw [hys] at R4 R5 s4 s5 hll ⊢
              have HN : Hid (PRel w (.slice a4 ys.length c4) (.slice a5 ys.length c5) ys w5) := ⟨R4, R5, hll, (HP5.out.pass b5).2.2.2⟩
              have S4 := Lib.hid s4
              have S5 := Lib.hid s5
              clear m4 m5 t4 t5 r4 r5 b4 b5 R4 R5 s4 s5 hys
              go_wp2_with fail
              refine (same_at S4.out S5.out (decide_eq_true rfl)).mono ?_
              rintro e w6 ⟨rfl, q6, rfl⟩
              have HN6 : Hid (PRel w (.slice a4 ys.length c4) (.slice a5 ys.length c5) ys (w5.drewN q6)) := HN.out.pass (below_drewN (Below.refl _ _) q6)
              go_wp2_with fail
              go_roundw
              case rel => exact ⟨k + 1, ys, by omega, by go_num, HN6⟩
              case measure => simp [intOf]; omega
            | false =>
              have HSX : Hid (SRow w3 0 (.slice wa xs.length wc) xs) := R3.out.up (Nat.zero_le _)
              obtain ⟨q, hq⟩ : ∃ q, intern xs s = q := ⟨_, rfl⟩
              have HQ := Lib.hid (intern_len hq hx16)
              obtain ⟨zs, num, er⟩ := q
              go_wp2_with fail
              refine (intern_at (strs_of HP3.out.1) (by omega) h2 hq).mono ?_
              rintro e w4 ⟨v4, rfl, r4, b4⟩
              have HP4 := Lib.hid (HP3.out.pass b4)
              have HW4 := Lib.hid (HSX.out.below b4)
              have p1 := (b4.cell (p := ⟨wr.heap.size, 1, none⟩) hlt).trans o1
              obtain ⟨ua4, uc4, rfl, _⟩ := r4.strs
              have R4 := Lib.hid (r4.up (Nat.zero_le _))
              have hq2 := hq
              clear r4 b4
              go_wp2_with fail
              refine (ref_intern_at (strs_of HP4.out.2.1) (by omega) h2 hq2).mono ?_
              rintro e w5 ⟨v5, rfl, r5, b5⟩
              have HP5 := Lib.hid (HP4.out.pass b5)
              have HW5 := Lib.hid (HW4.out.below b5)
              have RU5 := Lib.hid (R4.out.below b5)
              obtain ⟨ua5, uc5, rfl, _⟩ := r5.strs
              have R5 := Lib.hid (r5.up (Nat.zero_le _))
              have hn1 : (er != er) = false := by simp
              have hn2 : (num != num) = false := by simp
              clear r5 b5 hq hq2
              go_wp2_with fail
              refine (same_at (strs_of RU5.out) (strs_of R5.out) (decide_eq_true rfl)).mono ?_
              rintro e w6 ⟨rfl, q6, rfl⟩
              have B6 : Below w5.heap.size w5 (w5.drewN q6) := below_drewN (Below.refl _ _) q6
              have HP6 := Lib.hid (HP5.out.pass B6)
              have HW6 := Lib.hid (HW5.out.below B6)
              clear B6
              go_wp2_with fail
              refine (same_at (strs_of HP6.out.1) (strs_of HW6.out) (decide_eq_true rfl)).mono ?_
              rintro e w7 ⟨rfl, q7, rfl⟩
              have HP7 : Hid (PRel w (.slice ta xs.length tc) (.slice ma xs.length mc) xs (w5.drewN (q6 + q7))) := HP5.out.pass (below_drewN (Below.refl _ _) _)
              have HN7 : Hid (PRel w (.slice ua4 zs.length uc4) (.slice ua5 zs.length uc5) zs (w5.drewN (q6 + q7))) := ⟨RU5.out.draws _, R5.out.draws _, HQ.out, HP7.out.2.2.2⟩
              by_cases he : er = 0
              · subst he
                go_wp2_with fail
                go_roundw
                case rel => exact ⟨k + 1, zs, by omega, by go_num, HN7⟩
                case measure => simp [intOf]; omega
              · have hen : (er == 0) = false := beq_eq_false_iff_ne.2 he
                go_wp2_with fail
                go_roundw
                case rel => exact ⟨k + 1, xs, by omega, by go_num, HP7⟩
                case measure => simp [intOf]; omega
    · obtain rfl : k = n := by omega
      go_wp2_with fail
      go_ret
      exact ⟨rfl, HR.out.2.2.2⟩
end Go.Proofs.Ytdnihlfnglkjiaa
