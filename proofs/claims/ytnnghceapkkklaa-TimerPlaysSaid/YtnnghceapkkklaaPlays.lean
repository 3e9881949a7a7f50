/- Every row of samples and puttings back is answered as the document says: the walk. -/
import Derived.Test.YtnnghceapkkklaaRef
import Derived.Test.YtnnghceapkkklaaOps
namespace Go.Proofs.Ytnnghceapkkklaa
open Go.RowKit
attribute [local go_sem] alloc_drewN setCell_drewN


/-- What the timer is in, behind these samples and so many puttings back. -/
def stOf (xs : List Nat) (b : Nat) : St := ⟨(f xs).any, (f xs).s, (f xs).v, min b 5⟩
theorem stOf_bck (xs : List Nat) (b : Nat) : bck (stOf xs b) = stOf xs (min (b + 1) 100) := by
  unfold bck stOf
  simp only
  congr 1
  split <;> omega
theorem stOf_smp (xs : List Nat) (b x : Nat) : smp (stOf xs b) x = stOf (xs ++ [x]) 0 := by
  have h : f (xs ++ [x]) = smp (f xs) x := by
    unfold f
    rw [List.foldl_append]
    rfl
  unfold stOf
  rw [h]
  unfold smp
  simp only
  split <;> rfl
def PRel (w : World) (v : Value) (xs : List Nat) (b : Nat) (wr : World) : Prop :=
  G wr w.heap.size (stOf xs b) ∧ (stOf xs b).ok ∧ Own wr (w.heap.size + 1) 27 #[v, .int .i64 b] ∧ Row wr (w.heap.size + 2) v xs ∧ (∀ x ∈ xs, x ≤ 10000) ∧ b ≤ 100 ∧ Below w.heap.size w wr
theorem PRel.draws {w wr : World} {v : Value} {xs : List Nat} {b : Nat} (h : PRel w v xs b wr) (m : Nat) : PRel w v xs b (wr.drewN m) := ⟨Own.draws h.1 m, h.2.1, Own.draws h.2.2.1 m, h.2.2.2.1.draws m, h.2.2.2.2.1, h.2.2.2.2.2.1, below_drewN h.2.2.2.2.2.2 m⟩
theorem PRel.drew1 {w wr : World} {v : Value} {xs : List Nat} {b : Nat} (h : PRel w v xs b wr) : PRel w v xs b wr.drew := h.draws 1
theorem PRel.alloc {w wr : World} {v : Value} {xs : List Nat} {b : Nat} (h : PRel w v xs b wr) (o : Obj) : PRel w v xs b (wr.alloc o) := ⟨Own.alloc h.1 o, h.2.1, Own.alloc h.2.2.1 o, h.2.2.2.1.alloc o, h.2.2.2.2.1, h.2.2.2.2.2.1, h.2.2.2.2.2.2.alloc h.2.2.2.2.2.2.size o⟩
theorem PRel.pass {w wr w1 : World} {v : Value} {xs : List Nat} {b : Nat} (h : PRel w v xs b wr) (hb : Below wr.heap.size wr w1) : PRel w v xs b w1 :=
  ⟨Own.below h.1 hb (Own.lt h.1), h.2.1, Own.below h.2.2.1 hb (Own.lt h.2.2.1), h.2.2.2.1.below hb, h.2.2.2.2.1, h.2.2.2.2.2.1, h.2.2.2.2.2.2.trans (hb.mono h.2.2.2.2.2.2.size)⟩
/-- The document's timer is told, and not yet the other. -/
def Half (w : World) (v : Value) (xs : List Nat) (b : Nat) (t : St) (wr : World) : Prop :=
  G wr w.heap.size t ∧ Own wr (w.heap.size + 1) 27 #[v, .int .i64 b] ∧ Row wr (w.heap.size + 2) v xs ∧ Below w.heap.size w wr
theorem PRel.half {w wr w2 : World} {v v' : Value} {xs xs' : List Nat} {b b' lo : Nat} (h : PRel w v xs b wr) (hr : Row w2 lo v' xs') (hlo : w.heap.size + 2 ≤ lo) (b2 : Below wr.heap.size wr w2) {m : Int} (hm : m = b') :
    Half w v' xs' b' (stOf xs b) ((w2.setCell ⟨w.heap.size + 1, 0, none⟩ v').setCell ⟨w.heap.size + 1, 1, none⟩ (.int .i64 m)) := by
  subst hm
  obtain ⟨h1, _, h3, _, _, _, h7⟩ := h
  have o1 := Own.below h1 b2 (Own.lt h1)
  have o2 := Own.below h3 b2 (Own.lt h3)
  refine ⟨Own.other (Own.other o1 (by simp) _) (by simp) _, (Own.store o2 0 v').store 1 (.int .i64 b'), ((hr.up hlo).store (i := 0) (by omega) _).store (i := 1) (by omega) _, ?_⟩
  have k2 := h7.trans (b2.mono h7.size)
  exact (k2.setCell (p := ⟨w.heap.size + 1, 0, none⟩) (by simp) _).setCell (p := ⟨w.heap.size + 1, 1, none⟩) (by simp) _
theorem Half.tell {w wr w1 : World} {v : Value} {xs : List Nat} {b : Nat} {t : St} (h : Half w v xs b t wr) (g1 : G w1 w.heap.size (stOf xs b)) (t1 : wr.grownBy w1 (some w.heap.size)) (hk : (stOf xs b).ok) (hx : ∀ x ∈ xs, x ≤ 10000) (hb : b ≤ 100) : PRel w v xs b w1 := by
  obtain ⟨_, h2, h3, h4⟩ := h
  exact ⟨g1, hk, Own.grown h2 t1 (by simp), h3.grown t1 (by omega), hx, hb, h4.grown t1 h4.size (fun k hk => by cases hk; exact Nat.le_refl _)⟩
/-- The timer is told, then the document's is. -/
theorem PRel.next {w wr w1 w2 : World} {v v' : Value} {xs xs' : List Nat} {b b' lo : Nat} (h : PRel w v xs b wr) (g1 : G w1 w.heap.size (stOf xs' b')) (t1 : wr.grownBy w1 (some w.heap.size)) (hk : (stOf xs' b').ok) (hx : ∀ x ∈ xs', x ≤ 10000) (hb : b' ≤ 100)
    (hr : Row w2 lo v' xs') (hlo : w.heap.size + 2 ≤ lo) (b2 : Below w1.heap.size w1 w2) :
    PRel w v' xs' b' ((w2.setCell ⟨w.heap.size + 1, 0, none⟩ v').setCell ⟨w.heap.size + 1, 1, none⟩ (.int .i64 b')) := by
  obtain ⟨h1, _, h3, _, _, _, h7⟩ := h
  have o1 := Own.below g1 b2 (Own.lt g1)
  have o3 := Own.grown h3 t1 (by simp)
  have o2 := Own.below o3 b2 (Own.lt o3)
  refine ⟨Own.other (Own.other o1 (by simp) _) (by simp) _, hk, ?_, ((hr.up hlo).store (i := 0) (by omega) _).store (i := 1) (by omega) _, hx, hb, ?_⟩
  · exact (Own.store o2 0 v').store 1 (.int .i64 b')
  · have k1 := h7.grown t1 h7.size (fun k hk => by cases hk; exact Nat.le_refl _)
    have k2 := k1.trans (b2.mono k1.size)
    exact (k2.setCell (p := ⟨w.heap.size + 1, 0, none⟩) (by simp) _).setCell (p := ⟨w.heap.size + 1, 1, none⟩) (by simp) _
theorem ref_wait_at {v : Value} {b base : Nat} {xs : List Nat} {w : World} (hr : Row w base v xs) {m : Int} (hm : m = b) (hb : b ≤ 100) (hx : ∀ x ∈ xs, x ≤ 10000) {c : Nat} (hc : wt (stOf xs b) = c) : Calls Try.prog 14 #[.agg #[v, .int .i64 m]] w (RefPost (.int .i64 c) w) := by
  subst hc hm
  exact ref_wait v b base xs w hr hb hx
theorem wt_hid (t : St) : ∃ c, Hid (wt t = c) := ⟨_, rfl⟩
set_option maxHeartbeats 1000000 in
theorem plays_walk (a : Option Addr) (n c : Nat) (bs : Nat → Bool) (ys : Nat → Int) (w : World) (hl : Ops .i64 w a n bs ys) : Calls Try.prog 3 #[.slice a n c] w fun e w' => e = .returned (.bool true) ∧ Below w.heap.size w w' := by
  have HL := Lib.hid hl
  have hn := hl.1
  clear hl
  go_enter Try.func3, Try.ntmps3
  go_wp2_with fail
  refine (new_any _).mono ?_
  rintro e w' ⟨rfl, rfl⟩
  go_wp2_with fail
  refine (fixed_any _).mono ?_
  rintro e w2 ⟨rfl, hb2⟩
  have HB : Hid (PRel w (.slice none 0 0) [] 0 w2) := by
    have hs : (w.alloc (.cells #[.bool false, .int .i64 0, .int .i64 0, .int .i64 0] 43)).heap.size = w.heap.size + 1 := by simp
    have h1 : PRel w (.slice none 0 0) [] 0 ((w.alloc (.cells #[.bool false, .int .i64 0, .int .i64 0, .int .i64 0] 43)).alloc (.cells #[.slice none 0 0, .int .i64 0] 27)) := by
      refine ⟨Own.alloc (G_new w) _, s0_ok, ?_, Row.nil _ _, by simp, by omega, ((Below.refl _ _).alloc (Nat.le_refl _) _).alloc (by simp) _⟩
      have := Own.new (w.alloc (.cells #[.bool false, .int .i64 0, .int .i64 0, .int .i64 0] 43)) 27 #[.slice none 0 0, .int .i64 0]
      rw [hs] at this
      exact this
    exact h1.pass hb2
  clear hb2
  go_wp2_with fail
  go_loopw [18] (fun i wr => ∃ (k : Nat) (v : Value) (xs : List Nat) (b : Nat), k ≤ n ∧ xs.length ≤ k ∧ k ≤ 201 ∧ i = .int .i64 k ∧ PRel w v xs b wr) (fun i _ => n - (intOf i).toNat)
  case atStart => exact ⟨0, _, [], 0, by omega, by simp, by omega, rfl, HB.out⟩
  case round =>
    obtain ⟨k, v, xs, b, hk, hxk, hk2, rfl, hM⟩ := hrel
    have HR := Lib.hid hM
    obtain ⟨av, cv, rfl, _⟩ := hM.2.2.2.1.ints
    have c0 := Own.cell hM.2.2.1 0
    have c1 := Own.cell hM.2.2.1 1
    have f0 := Own.frozen hM.2.2.1 0
    have f1 := Own.frozen hM.2.2.1 1
    simp only [List.getElem?_toArray, List.getElem?_cons_zero, List.getElem?_cons_succ] at c0 c1
    have hlt := Own.lt hM.2.2.1
    clear hM HB
    by_cases hkn : k < n
    · obtain ⟨bo, off, rfl, hbl, hc⟩ := HL.out.2 (by omega)
      obtain ⟨hc0, hc1⟩ := hc k hkn
      rw [← HR.out.2.2.2.2.2.2.cell hbl] at hc0 hc1
      clear hc
      by_cases hbr : 200 < k
      · have hbr' : decide (200 < (k : Int)) = true := decide_eq_true (by omega)
        clear hbr
        go_wp2_with fail
        go_ret
        exact ⟨rfl, (HR.out.alloc _).2.2.2.2.2.2⟩
      · have hbr' : (k : Int) ≤ 200 := by omega
        cases hb : bs k with
        | true =>
          rw [hb] at hc0
          clear hb
          go_wp2_with fail
          refine (back_at (HR.out.alloc _).1 HR.out.2.1 (stOf_bck xs b)).mono ?_
          rintro e w4 ⟨rfl, g4, t4⟩
          have G4 := Lib.hid g4
          have T4 := Lib.hid t4
          have HO4 := Lib.hid (Own.grown (HR.out.alloc (.cells #[.bool true, .int .i64 (ys k)] 30)).2.2.1 t4 (by simp))
          have HW4 := Lib.hid ((HR.out.alloc (.cells #[.bool true, .int .i64 (ys k)] 30)).2.2.2.1.grown t4 (by omega))
          clear g4 t4
          have d0 := Own.cell HO4.out 0
          have d1 := Own.cell HO4.out 1
          simp only [List.getElem?_toArray, List.getElem?_cons_zero, List.getElem?_cons_succ] at d0 d1
          go_wp2_with fail
          refine (ref_back _ b _ xs _ HW4.out HR.out.2.2.2.2.2.1).mono ?_
          rintro e w5 ⟨rfl, hb5⟩
          have ho5 := Own.below HO4.out hb5 (Own.lt HO4.out)
          have e0 := Own.cell ho5 0
          have e1 := Own.cell ho5 1
          have q0 := Own.frozen ho5 0
          have q1 := Own.frozen ho5 1
          simp only [List.getElem?_toArray, List.getElem?_cons_zero, List.getElem?_cons_succ] at e0 e1
          have HN := Lib.hid ((HR.out.alloc (.cells #[.bool true, .int .i64 (ys k)] 30)).next G4.out T4.out (by rw [← stOf_bck]; exact bck_ok _ HR.out.2.1) HR.out.2.2.2.2.1 (by omega) (HW4.out.below hb5) (Nat.le_refl _) hb5)
          obtain ⟨cw, HWt⟩ := wt_hid (stOf xs (min (b + 1) 100))
          have HLEN : Hid (xs.length ≤ k + 1) := Nat.le_succ_of_le hxk
          clear hb5 ho5 d0 d1
          have HN1 := Lib.hid HN.out.drew1
          go_wp2_with fail
          refine wp_region_bits [(0, true), (2, true), (1, false), (3, false), (4, true)] [] (by kernel_rfl) (by kernel_rfl) (fun c a d v w h => by cases d <;> exact h) ?_
          simp only [bits_, bitOf, List.getElem?_cons_zero, List.getElem?_cons_succ, List.contains_nil]
          repeat (first | (refine bits_take (v := ?_) (by rfl) ?_ ?_; rotate_left; (· intro w' hS; go_simp; (repeat (rw [hS.at_]; rotate_left; (· go_simp); go_simp)); (try (go_ints; try go_simp)); with_reducible rfl); (try simp only [Act.put, List.setIfInBounds_toArray, List.set_cons_zero, List.set_cons_succ])) | (refine bits_skip (by rfl) ?_; (try simp only [Act.put, List.setIfInBounds_toArray, List.set_cons_zero, List.set_cons_succ])))
          refine bits_eff (by rfl) (fun K hK => ?_)
          go_simp
          (try go_ints)
          refine (wait_at HN1.out.1 HN1.out.2.1 HWt.out).mono ?_
          rintro e w6 ⟨rfl, m6, rfl⟩
          refine hK _ _ ?_ ?_
          · repeat (first | (with_reducible (first | exact Keep.refl _ | refine Keep.left _ ?_ | refine Keep.drew ?_ | refine Keep.drewN ?_ _ | refine Keep.alloc ?_ _)) | (refine Keep.below ?_ (by assumption)))
          clear hK K
          (try simp only [Act.put, List.setIfInBounds_toArray, List.set_cons_zero, List.set_cons_succ])
          repeat (first | (refine bits_take (v := ?_) (by rfl) ?_ ?_; rotate_left; (· intro w' hS; go_simp; (repeat (rw [hS.at_]; rotate_left; (· go_simp); go_simp)); (try (go_ints; try go_simp)); with_reducible rfl); (try simp only [Act.put, List.setIfInBounds_toArray, List.set_cons_zero, List.set_cons_succ])) | (refine bits_skip (by rfl) ?_; (try simp only [Act.put, List.setIfInBounds_toArray, List.set_cons_zero, List.set_cons_succ])))
          refine bits_eff (by rfl) (fun K hK => ?_)
          go_simp
          (try go_ints)
          refine (ref_wait_at (HN.out.draws (1 + m6)).2.2.2.1 (m := (min (b + 1) 100 : Nat)) rfl (HN.out.draws (1 + m6)).2.2.2.2.2.1 (HN.out.draws (1 + m6)).2.2.2.2.1 HWt.out).mono ?_
          rintro e w7 ⟨rfl, hb7⟩
          have H7 := Lib.hid ((HN.out.draws (1 + m6)).pass hb7)
          refine hK _ _ ?_ ?_
          · repeat (first | (with_reducible (first | exact Keep.refl _ | refine Keep.left _ ?_ | refine Keep.drew ?_ | refine Keep.drewN ?_ _ | refine Keep.alloc ?_ _)) | (refine Keep.below ?_ (by assumption)))
          clear hK K
          (try simp only [Act.put, List.setIfInBounds_toArray, List.set_cons_zero, List.set_cons_succ])
          repeat (first | (refine bits_take (v := ?_) (by rfl) ?_ ?_; rotate_left; (· intro w' hS; go_simp; (repeat (rw [hS.at_]; rotate_left; (· go_simp); go_simp)); (try (go_ints; try go_simp)); with_reducible rfl); (try simp only [Act.put, List.setIfInBounds_toArray, List.set_cons_zero, List.set_cons_succ])) | (refine bits_skip (by rfl) ?_; (try simp only [Act.put, List.setIfInBounds_toArray, List.set_cons_zero, List.set_cons_succ])))
          refine bits_nil ?_
          clear hb7
          go_wp2_with fail
          go_roundw
          case rel => exact ⟨k + 1, _, _, _, by omega, HLEN.out, by omega, by go_num, H7.out⟩
          case measure => simp [intOf]; omega
        | false =>
          rw [hb] at hc0
          clear hb
          obtain ⟨x, hx⟩ : ∃ x, x = ys k := ⟨_, rfl⟩
          rw [← hx] at hc1
          clear hx
          have HO := Lib.hid (HR.out.alloc (.cells #[.bool false, .int .i64 x] 30))
          have HW3 := Lib.hid HO.out.2.2.2.1
          by_cases hxr : x < 0 ∨ 10000 < x
          · have HX := Lib.hid hxr
            clear hxr
            obtain ⟨cw, HWt⟩ := wt_hid (stOf xs b)
            have HLEN : Hid (xs.length ≤ k + 1) := Nat.le_succ_of_le hxk
            go_wp2_with fail
            refine (ref_sample_no _ b _ xs x _ HW3.out HX.out).mono ?_
            rintro e w5 ⟨rfl, hb5⟩
            have ho5 := Own.below HO.out.2.2.1 hb5 (Own.lt HO.out.2.2.1)
            have e0 := Own.cell ho5 0
            have e1 := Own.cell ho5 1
            have q0 := Own.frozen ho5 0
            have q1 := Own.frozen ho5 1
            simp only [List.getElem?_toArray, List.getElem?_cons_zero, List.getElem?_cons_succ] at e0 e1
            have ho6 := Own.below (Own.new wr 30 #[.bool false, .int .i64 x]) hb5 (by simp)
            have i1 := Own.cell ho6 1
            simp only [List.getElem?_toArray, List.getElem?_cons_zero, List.getElem?_cons_succ] at i1
            have hne : wr.heap.size ≠ w.heap.size + 1 := by omega
            clear ho6
            have HF := Lib.hid (HO.out.half (b' := b) (HO.out.2.2.2.1.below hb5) (by omega) hb5 (m := b) rfl)
            clear hb5 ho5
            go_wp2_with fail
            refine (sample_no _ _ _ _ HF.out.1 HX.out).mono ?_
            rintro e w4 ⟨rfl, g4, t4⟩
            have HN := Lib.hid (HF.out.tell g4 t4 HR.out.2.1 HR.out.2.2.2.2.1 HR.out.2.2.2.2.2.1)
            have d0 := Own.cell HN.out.2.2.1 0
            have d1 := Own.cell HN.out.2.2.1 1
            simp only [List.getElem?_toArray, List.getElem?_cons_zero, List.getElem?_cons_succ] at d0 d1
            have hlt2 := Own.lt HN.out.2.2.1
            clear g4 t4 e0 e1 q0 q1
            have HN1 := Lib.hid HN.out.drew1
            go_wp2_with fail
            refine wp_region_bits [(0, true), (2, true), (1, false), (3, false), (4, true)] [] (by kernel_rfl) (by kernel_rfl) (fun c a d v w h => by cases d <;> exact h) ?_
            simp only [bits_, bitOf, List.getElem?_cons_zero, List.getElem?_cons_succ, List.contains_nil]
            repeat (first | (refine bits_take (v := ?_) (by rfl) ?_ ?_; rotate_left; (· intro w' hS; go_simp; (repeat (rw [hS.at_]; rotate_left; (· go_simp); go_simp)); (try (go_ints; try go_simp)); with_reducible rfl); (try simp only [Act.put, List.setIfInBounds_toArray, List.set_cons_zero, List.set_cons_succ])) | (refine bits_skip (by rfl) ?_; (try simp only [Act.put, List.setIfInBounds_toArray, List.set_cons_zero, List.set_cons_succ])))
            refine bits_eff (by rfl) (fun K hK => ?_)
            go_simp
            (try go_ints)
            refine (wait_at HN1.out.1 HN1.out.2.1 HWt.out).mono ?_
            rintro e w6 ⟨rfl, m6, rfl⟩
            refine hK _ _ ?_ ?_
            · repeat (first | (with_reducible (first | exact Keep.refl _ | refine Keep.left _ ?_ | refine Keep.drew ?_ | refine Keep.drewN ?_ _ | refine Keep.alloc ?_ _)) | (refine Keep.below ?_ (by assumption)))
            clear hK K
            (try simp only [Act.put, List.setIfInBounds_toArray, List.set_cons_zero, List.set_cons_succ])
            repeat (first | (refine bits_take (v := ?_) (by rfl) ?_ ?_; rotate_left; (· intro w' hS; go_simp; (repeat (rw [hS.at_]; rotate_left; (· go_simp); go_simp)); (try (go_ints; try go_simp)); with_reducible rfl); (try simp only [Act.put, List.setIfInBounds_toArray, List.set_cons_zero, List.set_cons_succ])) | (refine bits_skip (by rfl) ?_; (try simp only [Act.put, List.setIfInBounds_toArray, List.set_cons_zero, List.set_cons_succ])))
            refine bits_eff (by rfl) (fun K hK => ?_)
            go_simp
            (try go_ints)
            refine (ref_wait_at (HN.out.draws (1 + m6)).2.2.2.1 (m := b) rfl (HN.out.draws (1 + m6)).2.2.2.2.2.1 (HN.out.draws (1 + m6)).2.2.2.2.1 HWt.out).mono ?_
            rintro e w7 ⟨rfl, hb7⟩
            have H7 := Lib.hid ((HN.out.draws (1 + m6)).pass hb7)
            refine hK _ _ ?_ ?_
            · repeat (first | (with_reducible (first | exact Keep.refl _ | refine Keep.left _ ?_ | refine Keep.drew ?_ | refine Keep.drewN ?_ _ | refine Keep.alloc ?_ _)) | (refine Keep.below ?_ (by assumption)))
            clear hK K
            (try simp only [Act.put, List.setIfInBounds_toArray, List.set_cons_zero, List.set_cons_succ])
            repeat (first | (refine bits_take (v := ?_) (by rfl) ?_ ?_; rotate_left; (· intro w' hS; go_simp; (repeat (rw [hS.at_]; rotate_left; (· go_simp); go_simp)); (try (go_ints; try go_simp)); with_reducible rfl); (try simp only [Act.put, List.setIfInBounds_toArray, List.set_cons_zero, List.set_cons_succ])) | (refine bits_skip (by rfl) ?_; (try simp only [Act.put, List.setIfInBounds_toArray, List.set_cons_zero, List.set_cons_succ])))
            refine bits_nil ?_
            clear hb7
            go_wp2_with fail
            go_roundw
            case rel => exact ⟨k + 1, _, _, _, by omega, HLEN.out, by omega, by go_num, H7.out⟩
            case measure => simp [intOf]; omega
          · obtain ⟨y, rfl⟩ : ∃ y : Nat, x = y := ⟨x.toNat, by omega⟩
            have hy : y ≤ 10000 := by omega
            obtain ⟨zs, hzs⟩ : ∃ zs, xs ++ [y] = zs := ⟨_, rfl⟩
            have HLX : Hid (∀ z ∈ zs, z ≤ 10000) := fun z hz => by
              rw [← hzs] at hz
              rcases List.mem_append.1 hz with h | h
              · exact HR.out.2.2.2.2.1 z h
              · rw [List.mem_singleton.1 h]
                exact hy
            obtain ⟨cw, HWt⟩ := wt_hid (stOf zs 0)
            have HLEN : Hid (zs.length ≤ k + 1) := by
              show zs.length ≤ k + 1
              rw [← hzs]
              simp
              omega
            have hl3 : xs.length ≤ 1000 := by omega
            have HZS := Lib.hid hzs
            clear hxr hzs
            go_wp2_with fail
            refine (ref_sample_yes _ b _ xs y _ HW3.out hy hl3).mono ?_
            rintro e w5 ⟨v5, rfl, hr5, hb5⟩
            rw [HZS.out] at hr5
            obtain ⟨a5, c5, rfl, _⟩ := hr5.ints
            have ho5 := Own.below HO.out.2.2.1 hb5 (Own.lt HO.out.2.2.1)
            have e0 := Own.cell ho5 0
            have e1 := Own.cell ho5 1
            have q0 := Own.frozen ho5 0
            have q1 := Own.frozen ho5 1
            simp only [List.getElem?_toArray, List.getElem?_cons_zero, List.getElem?_cons_succ] at e0 e1
            have ho6 := Own.below (Own.new wr 30 #[.bool false, .int .i64 y]) hb5 (by simp)
            have i1 := Own.cell ho6 1
            simp only [List.getElem?_toArray, List.getElem?_cons_zero, List.getElem?_cons_succ] at i1
            have hne : wr.heap.size ≠ w.heap.size + 1 := by omega
            have HF := Lib.hid (HO.out.half (b' := 0) hr5 (by simp; omega) hb5 (m := 0) rfl)
            clear hb5 ho5 ho6 hr5
            go_wp2_with fail
            refine (sample_yes _ _ y _ HF.out.1 HR.out.2.1 hy).mono ?_
            rintro e w4 ⟨rfl, g4, t4⟩
            rw [stOf_smp, HZS.out] at g4
            have HN := Lib.hid (HF.out.tell g4 t4 (by rw [← HZS.out, ← stOf_smp xs b]; exact smp_ok _ _ HR.out.2.1 hy) HLX.out (by omega))
            have d0 := Own.cell HN.out.2.2.1 0
            have d1 := Own.cell HN.out.2.2.1 1
            simp only [List.getElem?_toArray, List.getElem?_cons_zero, List.getElem?_cons_succ] at d0 d1
            have hlt2 := Own.lt HN.out.2.2.1
            clear g4 t4 e0 e1 q0 q1
            have HN1 := Lib.hid HN.out.drew1
            go_wp2_with fail
            refine wp_region_bits [(0, true), (2, true), (1, false), (3, false), (4, true)] [] (by kernel_rfl) (by kernel_rfl) (fun c a d v w h => by cases d <;> exact h) ?_
            simp only [bits_, bitOf, List.getElem?_cons_zero, List.getElem?_cons_succ, List.contains_nil]
            repeat (first | (refine bits_take (v := ?_) (by rfl) ?_ ?_; rotate_left; (· intro w' hS; go_simp; (repeat (rw [hS.at_]; rotate_left; (· go_simp); go_simp)); (try (go_ints; try go_simp)); with_reducible rfl); (try simp only [Act.put, List.setIfInBounds_toArray, List.set_cons_zero, List.set_cons_succ])) | (refine bits_skip (by rfl) ?_; (try simp only [Act.put, List.setIfInBounds_toArray, List.set_cons_zero, List.set_cons_succ])))
            refine bits_eff (by rfl) (fun K hK => ?_)
            go_simp
            (try go_ints)
            refine (wait_at HN1.out.1 HN1.out.2.1 HWt.out).mono ?_
            rintro e w6 ⟨rfl, m6, rfl⟩
            refine hK _ _ ?_ ?_
            · repeat (first | (with_reducible (first | exact Keep.refl _ | refine Keep.left _ ?_ | refine Keep.drew ?_ | refine Keep.drewN ?_ _ | refine Keep.alloc ?_ _)) | (refine Keep.below ?_ (by assumption)))
            clear hK K
            (try simp only [Act.put, List.setIfInBounds_toArray, List.set_cons_zero, List.set_cons_succ])
            repeat (first | (refine bits_take (v := ?_) (by rfl) ?_ ?_; rotate_left; (· intro w' hS; go_simp; (repeat (rw [hS.at_]; rotate_left; (· go_simp); go_simp)); (try (go_ints; try go_simp)); with_reducible rfl); (try simp only [Act.put, List.setIfInBounds_toArray, List.set_cons_zero, List.set_cons_succ])) | (refine bits_skip (by rfl) ?_; (try simp only [Act.put, List.setIfInBounds_toArray, List.set_cons_zero, List.set_cons_succ])))
            refine bits_eff (by rfl) (fun K hK => ?_)
            go_simp
            (try go_ints)
            refine (ref_wait_at (HN.out.draws (1 + m6)).2.2.2.1 (m := 0) rfl (HN.out.draws (1 + m6)).2.2.2.2.2.1 (HN.out.draws (1 + m6)).2.2.2.2.1 HWt.out).mono ?_
            rintro e w7 ⟨rfl, hb7⟩
            have H7 := Lib.hid ((HN.out.draws (1 + m6)).pass hb7)
            refine hK _ _ ?_ ?_
            · repeat (first | (with_reducible (first | exact Keep.refl _ | refine Keep.left _ ?_ | refine Keep.drew ?_ | refine Keep.drewN ?_ _ | refine Keep.alloc ?_ _)) | (refine Keep.below ?_ (by assumption)))
            clear hK K
            (try simp only [Act.put, List.setIfInBounds_toArray, List.set_cons_zero, List.set_cons_succ])
            repeat (first | (refine bits_take (v := ?_) (by rfl) ?_ ?_; rotate_left; (· intro w' hS; go_simp; (repeat (rw [hS.at_]; rotate_left; (· go_simp); go_simp)); (try (go_ints; try go_simp)); with_reducible rfl); (try simp only [Act.put, List.setIfInBounds_toArray, List.set_cons_zero, List.set_cons_succ])) | (refine bits_skip (by rfl) ?_; (try simp only [Act.put, List.setIfInBounds_toArray, List.set_cons_zero, List.set_cons_succ])))
            refine bits_nil ?_
            clear hb7
            go_wp2_with fail
            go_roundw
            case rel => exact ⟨k + 1, _, _, _, by omega, HLEN.out, by omega, by go_num, H7.out⟩
            case measure => simp [intOf]; omega
    · obtain rfl : k = n := by omega
      go_wp2_with fail
      go_ret
      exact ⟨rfl, HR.out.2.2.2.2.2.2⟩
end Go.Proofs.Ytnnghceapkkklaa
