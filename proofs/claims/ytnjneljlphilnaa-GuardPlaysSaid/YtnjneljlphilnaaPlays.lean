/- Every row of calls is answered as the document says: the walk. -/
import Derived.Test.YtnjneljlphilnaaRefTake
import Derived.Test.YtnjneljlphilnaaOps
namespace Go.Proofs.Ytnjneljlphilnaa
open Go.RowKit
attribute [local go_sem] alloc_drewN setCell_drewN


theorem le_top : ∀ {xs : List Nat} {x : Nat}, x ∈ xs → x ≤ topOf xs := by
  have h1 : ∀ (xs : List Nat) (a : Nat), a ≤ xs.foldl max a := by
    intro xs
    induction xs with
    | nil => exact fun a => Nat.le_refl a
    | cons y l ih => exact fun a => Nat.le_trans (Nat.le_max_left a y) (ih _)
  have : ∀ (xs : List Nat) (a x : Nat), x ∈ xs → x ≤ xs.foldl max a := by
    intro xs
    induction xs with
    | nil => exact fun a x h => by cases h
    | cons y l ih =>
      intro a x h
      rcases List.mem_cons.1 h with rfl | h
      · exact Nat.le_trans (Nat.le_max_right a x) (h1 l _)
      · exact ih _ _ h
  exact fun {xs x} h => this xs 0 x h
theorem known_any {xs : List Nat} {s : St} (h : Knows (fun n => n ∈ xs) s) : s.any = decide (0 < xs.length) := by
  cases ha : s.any with
  | false =>
    have := h.2.1 ha
    match xs, this with
    | [], _ => rfl
    | x :: l, this => exact absurd List.mem_cons_self (this x)
  | true => exact (decide_eq_true (List.length_pos_of_mem (h.2.2 ha).1)).symm
theorem known_top {xs : List Nat} {s : St} (h : Knows (fun n => n ∈ xs) s) : topOf xs = if s.any = true then s.top else 0 := by
  cases ha : s.any with
  | false =>
    rw [if_neg (by simp)]
    have := known_any h
    rw [ha] at this
    have hl : xs = [] := List.eq_nil_of_length_eq_zero (by have := of_decide_eq_false this.symm; omega)
    rw [hl]
    rfl
  | true =>
    rw [if_pos rfl]
    obtain ⟨h1, h2, _⟩ := h.2.2 ha
    exact Nat.le_antisymm (top_le h2) (le_top h1)
theorem known_chk {xs : List Nat} {s : St} (h : Knows (fun n => n ∈ xs) s) (n : Nat) : rchk xs n = chk s n := by
  unfold rchk
  by_cases hn : 4611686018427387904 < n
  · rw [if_pos hn]
    exact (if_pos hn).symm
  · rw [if_neg hn, known_top h]
    obtain ⟨k1, k2⟩ := knows_chk (n := n) h (by omega)
    have k3 := known_any h
    cases ha : s.any with
    | false =>
      rw [ha] at k3 k2
      have hl : ¬ 0 < xs.length := of_decide_eq_false k3.symm
      rw [if_neg (fun k => hl k.1)]
      have hm : ¬ n ∈ xs := h.2.1 ha n
      rw [if_neg hm]
      rcases k1 with k1 | k1
      · exact k1.symm
      · rcases k2.1 k1 with k | k
        · exact absurd k hm
        · simp at k
    | true =>
      rw [ha] at k3 k2
      have hl : 0 < xs.length := of_decide_eq_true k3.symm
      rw [if_pos rfl]
      by_cases hold : 0 < xs.length ∧ n < s.top ∧ 64 ≤ s.top - n
      · rw [if_pos hold]
        exact (k2.2 (.inr ⟨rfl, by omega⟩)).symm
      · rw [if_neg hold]
        by_cases hm : n ∈ xs
        · rw [if_pos hm]
          exact (k2.2 (.inl hm)).symm
        · rw [if_neg hm]
          rcases k1 with k1 | k1
          · exact k1.symm
          · rcases k2.1 k1 with k | k
            · exact absurd k hm
            · exact absurd (show 0 < xs.length ∧ n < s.top ∧ 64 ≤ s.top - n from ⟨hl, by omega, by omega⟩) hold
def PRel (w : World) (v : Value) (xs : List Nat) (s : St) (wr : World) : Prop :=
  G wr w.heap.size s ∧ Own wr (w.heap.size + 1) 38 #[v] ∧ Row wr (w.heap.size + 2) v xs ∧ Knows (fun n => n ∈ xs) s ∧ (∀ x ∈ xs, x ≤ 4611686018427387904) ∧ Below w.heap.size w wr
section
variable {w wr w1 w2 : World} {v : Value} {xs : List Nat} {s : St}
theorem PRel.draws (h : PRel w v xs s wr) (m : Nat) : PRel w v xs s (wr.drewN m) := ⟨Own.draws h.1 m, Own.draws h.2.1 m, h.2.2.1.draws m, h.2.2.2.1, h.2.2.2.2.1, below_drewN h.2.2.2.2.2 m⟩
theorem PRel.drew1 (h : PRel w v xs s wr) : PRel w v xs s wr.drew := h.draws 1
theorem PRel.alloc (h : PRel w v xs s wr) (o : Obj) : PRel w v xs s (wr.alloc o) := ⟨Own.alloc h.1 o, Own.alloc h.2.1 o, h.2.2.1.alloc o, h.2.2.2.1, h.2.2.2.2.1, h.2.2.2.2.2.alloc h.2.2.2.2.2.size o⟩
theorem PRel.pass (h : PRel w v xs s wr) (hb : Below wr.heap.size wr w1) : PRel w v xs s w1 :=
  ⟨Own.below h.1 hb (Own.lt h.1), Own.below h.2.1 hb (Own.lt h.2.1), h.2.2.1.below hb, h.2.2.2.1, h.2.2.2.2.1, h.2.2.2.2.2.trans (hb.mono h.2.2.2.2.2.size)⟩
def Half (w : World) (v : Value) (xs : List Nat) (s : St) (wr : World) : Prop :=
  G wr w.heap.size s ∧ Own wr (w.heap.size + 1) 38 #[v] ∧ Row wr (w.heap.size + 2) v xs ∧ Below w.heap.size w wr
theorem PRel.half {v' : Value} {xs' : List Nat} {lo : Nat} (h : PRel w v xs s wr) (hr : Row w2 lo v' xs') (hlo : w.heap.size + 2 ≤ lo) (b2 : Below wr.heap.size wr w2) :
    Half w v' xs' s (w2.setCell ⟨w.heap.size + 1, 0, none⟩ v') := by
  obtain ⟨h1, h3, _, _, _, h7⟩ := h
  have o1 := Own.below h1 b2 (Own.lt h1)
  have o2 := Own.below h3 b2 (Own.lt h3)
  refine ⟨Own.other o1 (by simp) _, Own.store o2 0 v', (hr.up hlo).store (i := 0) (by omega) _, ?_⟩
  exact (h7.trans (b2.mono h7.size)).setCell (p := ⟨w.heap.size + 1, 0, none⟩) (by simp) _
theorem Half.tell {s' : St} (h : Half w v xs s wr) (g1 : G w1 w.heap.size s') (t1 : wr.grownBy w1 (some w.heap.size)) (hk : Knows (fun n => n ∈ xs) s') (hx : ∀ x ∈ xs, x ≤ 4611686018427387904) : PRel w v xs s' w1 := by
  obtain ⟨_, h2, h3, h4⟩ := h
  exact ⟨g1, Own.grown h2 t1 (by simp), h3.grown t1 (by omega), hk, hx, h4.grown t1 h4.size (fun k hk => by cases hk; exact Nat.le_refl _)⟩
end
theorem top_at {g : Nat} {s : St} {w : World} (hg : G w g s) {t : Nat} {b : Bool} (ht : (if s.any = true then s.top else 0) = t) (hb : s.any = b) : Calls Try.prog 14 #[.pointer (some ⟨g, 0, none⟩)] w fun e w' => e = .returned (.tuple #[.int .u64 t, .bool b]) ∧ ∃ m, w.drewN m = w' := by
  subst ht hb
  exact top_any g s w hg
theorem tops (xs : List Nat) (s : St) (h : Knows (fun n => n ∈ xs) s) : ∃ (t : Nat) (b : Bool), Hid ((if s.any = true then s.top else 0) = t ∧ s.any = b ∧ topOf xs = t ∧ decide (0 < xs.length) = b) :=
  ⟨_, _, rfl, rfl, known_top h, (known_any h).symm⟩
theorem next_knows {xs : List Nat} {s : St} {y : Nat} (h : Knows (fun n => n ∈ xs) s) (hc : chk s y = 0) : Knows (fun n => n ∈ xs ++ [y]) (tk s y) :=
  (knows_tk h hc).congr fun n => by simp [or_comm]
set_option maxHeartbeats 1000000 in
theorem plays_walk (a : Option Addr) (n c : Nat) (bs : Nat → Bool) (ys : Nat → Int) (w : World) (hl : Ops .u64 w a n bs ys) (hy : ∀ i, i < n → 0 ≤ ys i ∧ ys i ≤ 18446744073709551615) : Calls Try.prog 6 #[.slice a n c] w fun e w' => e = .returned (.bool true) ∧ Below w.heap.size w w' := by
  have HL := Lib.hid hl
  have HY := Lib.hid hy
  have hn := hl.1
  clear hl hy
  go_enter Try.func6, Try.ntmps6
  go_wp2_with fail
  refine (new_any _).mono ?_
  rintro e w' ⟨rfl, rfl⟩
  go_wp2_with fail
  refine (fixed_any _).mono ?_
  rintro e w2 ⟨rfl, hb2⟩
  have HB : Hid (PRel w (.slice none 0 0) [] s0 w2) := by
    have hs : (w.alloc (.cells #[.bool false, .int .u64 0, .int .u64 0] 49)).heap.size = w.heap.size + 1 := by simp
    have h1 : PRel w (.slice none 0 0) [] s0 ((w.alloc (.cells #[.bool false, .int .u64 0, .int .u64 0] 49)).alloc (.cells #[.slice none 0 0] 38)) := by
      refine ⟨Own.alloc (G_new w) _, ?_, Row.nil _ _, knows_new.congr (fun n => by simp), by simp, ((Below.refl _ _).alloc (Nat.le_refl _) _).alloc (by simp) _⟩
      have := Own.new (w.alloc (.cells #[.bool false, .int .u64 0, .int .u64 0] 49)) 38 #[.slice none 0 0]
      rw [hs] at this
      exact this
    exact h1.pass hb2
  clear hb2
  go_wp2_with fail
  go_loopw [22] (fun i wr => ∃ (k : Nat) (v : Value) (xs : List Nat) (s : St), k ≤ n ∧ xs.length ≤ k ∧ k ≤ 301 ∧ i = .int .i64 k ∧ PRel w v xs s wr) (fun i _ => n - (intOf i).toNat)
  case atStart => exact ⟨0, _, [], s0, by omega, by simp, by omega, rfl, HB.out⟩
  case round =>
    obtain ⟨k, v, xs, s, hk, hxk, hk2, rfl, hM⟩ := hrel
    have HR := Lib.hid hM
    obtain ⟨av, cv, rfl, _⟩ := hM.2.2.1.ints
    have c0 := Own.cell hM.2.1 0
    have f0 := Own.frozen hM.2.1 0
    simp only [List.getElem?_toArray, List.getElem?_cons_zero] at c0
    have hlt := Own.lt hM.2.1
    clear hM HB
    by_cases hkn : k < n
    · obtain ⟨bo, off, rfl, hbl, hc⟩ := HL.out.2 (by omega)
      obtain ⟨hc0, hc1⟩ := hc k hkn
      rw [← HR.out.2.2.2.2.2.cell hbl] at hc0 hc1
      clear hc
      obtain ⟨y, hy⟩ : ∃ y : Nat, ys k = y := ⟨(ys k).toNat, by have := (HY.out k hkn).1; omega⟩
      have hyl : y < 18446744073709551616 := by have := (HY.out k hkn).2; omega
      rw [hy] at hc1
      clear hy
      by_cases hbr : 300 < k
      · have hbr' : decide (300 < (k : Int)) = true := decide_eq_true (by omega)
        clear hbr
        go_wp2_with fail
        go_ret
        exact ⟨rfl, (HR.out.alloc _).2.2.2.2.2⟩
      · have hbr' : (k : Int) ≤ 300 := by omega
        cases hb : bs k with
        | true =>
          rw [hb] at hc0
          clear hb
          have HO := Lib.hid (HR.out.alloc (.cells #[.bool true, .int .u64 y] 40))
          obtain ⟨cc, HCC⟩ : ∃ cc, Hid (rchk xs y = cc) := ⟨_, rfl⟩
          have HCK := Lib.hid ((known_chk HR.out.2.2.2.1 y).symm.trans HCC.out)
          obtain ⟨t, bb, HTB⟩ := tops xs s HR.out.2.2.2.1
          have HLEN : Hid (xs.length ≤ k + 1) := Nat.le_succ_of_le hxk
          go_wp2_with fail
          refine (ref_check_at HO.out.2.2.1 HO.out.2.2.2.2.1 HCC.out).mono ?_
          rintro e w5 ⟨rfl, hb5⟩
          have ho5 := Own.below HO.out.2.1 hb5 (Own.lt HO.out.2.1)
          have e0 := Own.cell ho5 0
          have q0 := Own.frozen ho5 0
          have ho6 := Own.below (Own.new wr 40 #[.bool true, .int .u64 y]) hb5 (by simp)
          have i1 := Own.cell ho6 1
          simp only [List.getElem?_toArray, List.getElem?_cons_zero, List.getElem?_cons_succ] at e0 i1
          have hne : wr.heap.size ≠ w.heap.size + 1 := by omega
          have hl6 : wr.heap.size < w5.heap.size := Own.lt ho6
          clear ho5 ho6
          have H5 := Lib.hid (HO.out.pass hb5)
          clear hb5
          go_wp2_with fail
          refine (check_at H5.out.1 H5.out.2.2.2.1.1 (n := y) rfl HCK.out).mono ?_
          rintro e w4 ⟨rfl, m4, rfl⟩
          have HN := Lib.hid (H5.out.draws m4)
          go_wp2_with fail
          refine (top_at HN.out.1 HTB.out.1 HTB.out.2.1).mono ?_
          rintro e w6 ⟨rfl, m6, rfl⟩
          have HN6 := Lib.hid (H5.out.draws (m4 + m6))
          go_wp2_with fail
          refine (ref_top_at HN6.out.2.2.1 HTB.out.2.2.1 HTB.out.2.2.2).mono ?_
          rintro e w7 ⟨rfl, hb7⟩
          have H7 := Lib.hid (HN6.out.pass hb7)
          clear hb7
          go_wp2_with fail
          go_roundw
          case rel => exact ⟨k + 1, _, _, _, by omega, HLEN.out, by omega, by go_num, H7.out⟩
          case measure => simp [intOf]; omega
        | false =>
          rw [hb] at hc0
          clear hb
          have HO := Lib.hid (HR.out.alloc (.cells #[.bool false, .int .u64 y] 40))
          by_cases hcc : rchk xs y = 0
          · have HCC := Lib.hid hcc
            have HCK := Lib.hid ((known_chk HR.out.2.2.2.1 y).symm.trans hcc)
            have hy62 := chk_le s y HCK.out
            have HKN := Lib.hid (next_knows HR.out.2.2.2.1 HCK.out)
            obtain ⟨zs, hzs⟩ : ∃ zs, xs ++ [y] = zs := ⟨_, rfl⟩
            have HLX : Hid (∀ z ∈ zs, z ≤ 4611686018427387904) := fun z hz => by
              rw [← hzs] at hz
              rcases List.mem_append.1 hz with h | h
              · exact HR.out.2.2.2.2.1 z h
              · rw [List.mem_singleton.1 h]
                exact hy62
            have HLEN : Hid (zs.length ≤ k + 1) := by
              show zs.length ≤ k + 1
              rw [← hzs]
              simp
              omega
            have hl3 : xs.length ≤ 1000 := by omega
            rw [hzs] at HKN
            obtain ⟨t, bb, HTB⟩ := tops zs (tk s y) HKN.out
            have HZS := Lib.hid hzs
            clear hzs hcc
            go_wp2_with fail
            refine (ref_take_yes _ _ xs y _ HO.out.2.2.1 HO.out.2.2.2.2.1 HCC.out hl3).mono ?_
            rintro e w5 ⟨v5, rfl, hr5, hb5⟩
            rw [HZS.out] at hr5
            obtain ⟨a5, c5, rfl, _⟩ := hr5.ints
            have ho5 := Own.below HO.out.2.1 hb5 (Own.lt HO.out.2.1)
            have e0 := Own.cell ho5 0
            have q0 := Own.frozen ho5 0
            have ho6 := Own.below (Own.new wr 40 #[.bool false, .int .u64 y]) hb5 (by simp)
            have i1 := Own.cell ho6 1
            simp only [List.getElem?_toArray, List.getElem?_cons_zero, List.getElem?_cons_succ] at e0 i1
            have hne : wr.heap.size ≠ w.heap.size + 1 := by omega
            have hl6 : wr.heap.size < w5.heap.size := Own.lt ho6
            clear ho5 ho6
            have HF := Lib.hid (HO.out.half hr5 (by simp; omega) hb5)
            clear hb5 hr5
            go_wp2_with fail
            refine (take_at HF.out.1 HR.out.2.2.2.1.1 (n := y) rfl HCK.out rfl).mono ?_
            rintro e w4 ⟨rfl, g4, t4⟩
            have HN := Lib.hid (HF.out.tell g4 t4 HKN.out HLX.out)
            have d0 := Own.cell HN.out.2.1 0
            simp only [List.getElem?_toArray, List.getElem?_cons_zero] at d0
            clear g4 t4 e0 q0
            go_wp2_with fail
            refine (top_at HN.out.1 HTB.out.1 HTB.out.2.1).mono ?_
            rintro e w6 ⟨rfl, m6, rfl⟩
            have HN6 := Lib.hid (HN.out.draws m6)
            go_wp2_with fail
            refine (ref_top_at HN6.out.2.2.1 HTB.out.2.2.1 HTB.out.2.2.2).mono ?_
            rintro e w7 ⟨rfl, hb7⟩
            have H7 := Lib.hid (HN6.out.pass hb7)
            clear hb7
            go_wp2_with fail
            go_roundw
            case rel => exact ⟨k + 1, _, _, _, by omega, HLEN.out, by omega, by go_num, H7.out⟩
            case measure => simp [intOf]; omega
          · obtain ⟨cc, HCC⟩ : ∃ cc, Hid (rchk xs y = cc) := ⟨_, rfl⟩
            have HCK := Lib.hid ((known_chk HR.out.2.2.2.1 y).symm.trans HCC.out)
            have hcc0 : ¬ cc = 0 := fun h => hcc (HCC.out.trans h)
            have HC0 := Lib.hid hcc0
            have HTK : Hid (tk s y = s) := (tk_eq s y).1 (by rw [HCK.out]; exact hcc0)
            obtain ⟨t, bb, HTB⟩ := tops xs s HR.out.2.2.2.1
            have HLEN : Hid (xs.length ≤ k + 1) := Nat.le_succ_of_le hxk
            clear hcc hcc0
            go_wp2_with fail
            refine (ref_take_no _ _ xs y _ HO.out.2.2.1 HO.out.2.2.2.2.1 cc HCC.out HC0.out).mono ?_
            rintro e w5 ⟨rfl, hb5⟩
            have ho5 := Own.below HO.out.2.1 hb5 (Own.lt HO.out.2.1)
            have e0 := Own.cell ho5 0
            have q0 := Own.frozen ho5 0
            have ho6 := Own.below (Own.new wr 40 #[.bool false, .int .u64 y]) hb5 (by simp)
            have i1 := Own.cell ho6 1
            simp only [List.getElem?_toArray, List.getElem?_cons_zero, List.getElem?_cons_succ] at e0 i1
            have hne : wr.heap.size ≠ w.heap.size + 1 := by omega
            have hl6 : wr.heap.size < w5.heap.size := Own.lt ho6
            clear ho5 ho6
            have HF := Lib.hid (HO.out.half (HO.out.2.2.1.below hb5) (Nat.le_refl _) hb5)
            clear hb5
            go_wp2_with fail
            refine (take_at HF.out.1 HR.out.2.2.2.1.1 (n := y) rfl HCK.out HTK.out).mono ?_
            rintro e w4 ⟨rfl, g4, t4⟩
            have HN := Lib.hid (HF.out.tell g4 t4 HR.out.2.2.2.1 HR.out.2.2.2.2.1)
            have d0 := Own.cell HN.out.2.1 0
            simp only [List.getElem?_toArray, List.getElem?_cons_zero] at d0
            clear g4 t4 e0 q0
            go_wp2_with fail
            refine (top_at HN.out.1 HTB.out.1 HTB.out.2.1).mono ?_
            rintro e w6 ⟨rfl, m6, rfl⟩
            have HN6 := Lib.hid (HN.out.draws m6)
            go_wp2_with fail
            refine (ref_top_at HN6.out.2.2.1 HTB.out.2.2.1 HTB.out.2.2.2).mono ?_
            rintro e w7 ⟨rfl, hb7⟩
            have H7 := Lib.hid (HN6.out.pass hb7)
            clear hb7
            go_wp2_with fail
            go_roundw
            case rel => exact ⟨k + 1, _, _, _, by omega, HLEN.out, by omega, by go_num, H7.out⟩
            case measure => simp [intOf]; omega
    · obtain rfl : k = n := by omega
      go_wp2_with fail
      go_ret
      exact ⟨rfl, HR.out.2.2.2.2.2⟩
end Go.Proofs.Ytnjneljlphilnaa
