/- What is near is taken once: the walk. -/
import Derived.Test.YtnjneljlphilnaaKnows
import Derived.Test.YtnjneljlphilnaaInts
namespace Go.Proofs.Ytnjneljlphilnaa
open Go.RowKit
attribute [local go_sem] alloc_drewN setCell_drewN


def arr (S : Nat → Bool) : Array Value := ((List.range 64).map fun k => Value.bool (S k)).toArray
theorem arr_at (S : Nat → Bool) {k : Nat} (hk : k < 64) : (arr S)[k]? = some (.bool (S k)) := by
  unfold arr
  rw [List.getElem?_toArray, List.getElem?_map, List.getElem?_range hk]
  rfl
theorem arr_set (S : Nat → Bool) {q : Nat} (hq : q < 64) : (arr S).setIfInBounds q (.bool true) = arr (fun k => S k || decide (k = q)) := by
  unfold arr
  rw [List.setIfInBounds_toArray]
  congr 1
  refine List.ext_getElem? fun i => ?_
  rw [List.getElem?_set, List.getElem?_map, List.getElem?_map]
  by_cases h : q = i
  · subst h
    rw [if_pos rfl, List.getElem?_range hq]
    simp [hq]
  · rw [if_neg h]
    rcases Nat.lt_or_ge i 64 with hi | hi
    · rw [List.getElem?_range hi]
      simp [Ne.symm h]
    · rw [List.getElem?_eq_none (by simpa using hi)]
      rfl
theorem arr_new : arr (fun _ => false) = Array.replicate 64 (.bool false) := rfl
def NT (d : Nat) (S : Nat → Bool) (n : Nat) : Prop := ∃ k, k < 64 ∧ S k = true ∧ n = d + k
theorem near_chk {d q : Nat} {S : Nat → Bool} {s : St} (h : Knows (NT d S) s) (hd : d < 2305843009213693952) (hq : q < 64) : chk s (d + q) = if S q = true then 10 else 0 := by
  obtain ⟨h1, h2⟩ := knows_chk (n := d + q) h (by omega)
  have h3 : NT d S (d + q) ↔ S q = true := ⟨fun ⟨k, _, hk, e⟩ => by obtain rfl : q = k := by omega
                                                                    exact hk, fun hs => ⟨q, hq, hs, rfl⟩⟩
  have h4 : ¬ (s.any = true ∧ d + q + 64 ≤ s.top) := fun ⟨ha, hb⟩ => by
    obtain ⟨⟨k, hk, _, e⟩, _⟩ := h.2.2 ha
    omega
  rw [h3] at h2
  by_cases hs : S q = true
  · rw [if_pos hs]
    exact h2.2 (.inl hs)
  · rw [if_neg hs]
    rcases h1 with h1 | h1
    · exact h1
    · rcases h2.1 h1 with k | k
      · exact absurd k hs
      · exact absurd k h4
theorem near_tk {d q : Nat} {S : Nat → Bool} {s : St} (h : Knows (NT d S) s) (hd : d < 2305843009213693952) (hq : q < 64) : Knows (NT d (fun k => S k || decide (k = q))) (tk s (d + q)) := by
  have hc := near_chk h hd hq
  by_cases hs : S q = true
  · rw [if_pos hs] at hc
    rw [(tk_eq s (d + q)).1 (by omega)]
    refine h.congr fun n => ⟨fun ⟨k, h1, h2, h3⟩ => ⟨k, h1, by simp [h2], h3⟩, fun ⟨k, h1, h2, h3⟩ => ?_⟩
    rcases Bool.or_eq_true_iff.1 h2 with h4 | h4
    · exact ⟨k, h1, h4, h3⟩
    · obtain rfl : k = q := by simpa using h4
      exact ⟨k, h1, hs, h3⟩
  · rw [if_neg hs] at hc
    refine (knows_tk h hc).congr fun n => ⟨fun k => ?_, fun ⟨k, h1, h2, h3⟩ => ?_⟩
    · rcases k with rfl | ⟨k, h1, h2, h3⟩
      · exact ⟨q, hq, by simp, rfl⟩
      · exact ⟨k, h1, by simp [h2], h3⟩
    · rcases Bool.or_eq_true_iff.1 h2 with h4 | h4
      · exact .inr ⟨k, h1, h4, h3⟩
      · obtain rfl : k = q := by simpa using h4
        exact .inl h3
def NRel (d : Nat) (w : World) (b : Nat) (S : Nat → Bool) (s : St) (wr : World) : Prop :=
  G wr w.heap.size s ∧ Own wr b 31 (arr S) ∧ Knows (NT d S) s ∧ Below w.heap.size w wr ∧ w.heap.size < b
theorem NRel.step {d q b m : Nat} {w wr w1 : World} {S : Nat → Bool} {s : St} (h : NRel d w b S s wr) (hd : d < 2305843009213693952) (hq : q < 64)
    (g1 : G w1 w.heap.size (tk s (d + q))) (t1 : ((wr.setCell ⟨b, q, none⟩ (.bool true)).drewN m).grownBy w1 (some w.heap.size)) : NRel d w b (fun k => S k || decide (k = q)) (tk s (d + q)) w1 := by
  obtain ⟨_, h2, h3, h4, h5⟩ := h
  have h6 := (h2.store q (.bool true)).draws m
  rw [arr_set S hq] at h6
  refine ⟨g1, h6.grown t1 (by simp; omega), near_tk h3 hd hq, ?_, h5⟩
  have h7 := below_drewN (h4.setCell (p := ⟨b, q, none⟩) (Nat.le_of_lt h5) (.bool true)) m
  exact h7.grown t1 (h7.size) (fun k hk => by cases hk; exact Nat.le_refl _)

set_option maxHeartbeats 1000000 in
theorem near_walk (f : Nat) (a : Option Addr) (n c : Nat) (zs : List Nat) (w : World) (hl : Ints .u8 w a n zs) (hz : ∀ z ∈ zs, z < 256) : Calls Try.prog 4 #[.int .u64 f, .slice a n c] w fun e w' => e = .returned (.bool true) ∧ Below w.heap.size w w' := by
  obtain ⟨d, hd⟩ : ∃ d : Nat, d = f % 2305843009213693952 := ⟨_, rfl⟩
  have hdl : d < 2305843009213693952 := by omega
  have hdi : (f : Int) % 2305843009213693952 = (d : Int) := by omega
  have HD := Lib.hid hdi
  clear hd hdi
  have HL := Lib.hid hl
  have hn := hl.2.1
  clear hl
  have HZ := Lib.hid hz
  clear hz
  go_enter Try.func4, Try.ntmps4
  go_wp2_with fail
  refine (new_any _).mono ?_
  rintro e w' ⟨rfl, rfl⟩
  go_wp2_with fail
  refine (fixed_any _).mono ?_
  rintro e w1 ⟨rfl, hb1⟩
  go_wp2_with fail
  rw [HD.out]
  have hb1s := hb1.size
  simp at hb1s
  have hM : NRel d w w1.heap.size (fun _ => false) s0 (w1.alloc (.cells (Array.replicate 64 (.bool false)) 31)) := by
    refine ⟨Own.alloc (Own.below (G_new w) hb1 (by simp)) _, ?_, knows_new.congr (fun n => ⟨fun h => h.elim, fun ⟨k, _, h, _⟩ => by simp at h⟩), ?_, by omega⟩
    · have := Own.new w1 31 (Array.replicate 64 (.bool false))
      rw [← arr_new] at this ⊢
      exact this
    · exact (((Below.refl _ _).alloc (Nat.le_refl _) _).trans (hb1.mono (by simp))).alloc (by omega) _
  have HM := Lib.hid hM
  obtain ⟨b, hbe⟩ : ∃ b, b = w1.heap.size := ⟨_, rfl⟩
  rw [← hbe] at HM ⊢
  have HE := Lib.hid hbe
  clear hM hb1 hb1s hbe
  go_loopw [22] (fun i wr => ∃ (k : Nat) (S : Nat → Bool) (s : St), k ≤ n ∧ i = .int .i64 k ∧ NRel d w b S s wr) (fun i _ => n - (intOf i).toNat)
  case atStart => exact ⟨0, _, s0, by omega, rfl, HM.out⟩
  case round =>
    obtain ⟨k, S, s, hk, rfl, hM⟩ := hrel
    have HR := Lib.hid hM
    clear hM HM
    by_cases hkn : k < n
    · obtain ⟨bl, off, rfl, hbl, hc⟩ := HL.out.2.2 (by omega)
      have hcell := hc k hkn
      have hx : zs.getD k 0 < 256 := by
        rw [List.getD_eq_getElem?_getD, List.getElem?_eq_getElem (by rw [HL.out.1]; exact hkn)]
        exact HZ.out _ (List.getElem_mem _)
      obtain ⟨x, hxe⟩ : ∃ x, x = zs.getD k 0 := ⟨_, rfl⟩
      rw [← hxe] at hcell hx
      clear hxe hc
      have hcw : wr.cell? ⟨bl, off + k, none⟩ = some (.int .u8 x) := (HR.out.2.2.2.1.cell hbl).trans hcell
      clear hcell
      by_cases hbr : 2000 < k
      · go_wp2_with fail
        go_ret
        exact ⟨rfl, HR.out.2.2.2.1⟩
      · have hbr' : (k : Int) ≤ 2000 := by omega
        obtain ⟨q, hq, hql⟩ : ∃ q : Nat, (x : Int) % 64 = (q : Int) ∧ q < 64 := ⟨x % 64, by omega, by omega⟩
        have ha := (Own.cell HR.out.2.1 q).trans (arr_at S hql)
        have hfz := Own.frozen HR.out.2.1 q
        have hck := near_chk HR.out.2.2.1 hdl hql
        have hks := HR.out.2.2.1.1
        have hgw : G (wr.setCell ⟨b, q, none⟩ (.bool true)) w.heap.size s := Own.other HR.out.1 (by have := HR.out.2.2.2.2; simp only; omega) _
        have HG := Lib.hid hgw
        have HK := Lib.hid hks
        clear hgw hks
        cases hS : S q with
        | true =>
          rw [hS, if_pos rfl] at hck
          rw [hS] at ha
          have HC := Lib.hid hck
          clear hck hS
          go_wp2_with fail
          refine (check_at HG.out HK.out (n := d + q) (by omega) HC.out).mono ?_
          rintro e w2 ⟨rfl, m2, rfl⟩
          go_wp2_with fail
          refine (take_at (Own.draws HG.out m2) HK.out (n := d + q) (by omega) HC.out rfl).mono ?_
          rintro e w3 ⟨rfl, g3, t3⟩
          have HS := Lib.hid (NRel.step HR.out hdl hql g3 t3)
          clear g3 t3
          go_wp2_with fail
          go_roundw
          case rel => exact ⟨k + 1, _, _, by omega, by go_num, HS.out⟩
          case measure => simp [intOf]; omega
        | false =>
          rw [hS, if_neg (by simp)] at hck
          rw [hS] at ha
          have HC := Lib.hid hck
          clear hck hS
          go_wp2_with fail
          refine (check_at HG.out HK.out (n := d + q) (by omega) HC.out).mono ?_
          rintro e w2 ⟨rfl, m2, rfl⟩
          go_wp2_with fail
          refine (take_at (Own.draws HG.out m2) HK.out (n := d + q) (by omega) HC.out rfl).mono ?_
          rintro e w3 ⟨rfl, g3, t3⟩
          have HS := Lib.hid (NRel.step HR.out hdl hql g3 t3)
          clear g3 t3
          go_wp2_with fail
          go_roundw
          case rel => exact ⟨k + 1, _, _, by omega, by go_num, HS.out⟩
          case measure => simp [intOf]; omega
    · obtain rfl : k = n := by omega
      go_wp2_with fail
      go_ret
      exact ⟨rfl, HR.out.2.2.2.1⟩
end Go.Proofs.Ytnjneljlphilnaa
