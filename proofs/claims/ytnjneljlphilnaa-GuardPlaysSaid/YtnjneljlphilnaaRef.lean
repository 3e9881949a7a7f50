/- The document's guard: its functions, over the list of what was taken. -/
import Derived.Test.YtnjneljlphilnaaKnows
import Derived.Test.YtnjneljlphilnaaAppRow
namespace Go.Proofs.Ytnjneljlphilnaa
open Go.RowKit
attribute [local go_sem] alloc_drewN setCell_drewN


def RefPost (c : Value) (w : World) (e : Ending) (w' : World) : Prop := e = .returned c ∧ Below w.heap.size w w'
def topOf (xs : List Nat) : Nat := xs.foldl max 0
theorem top_next (xs : List Nat) {k : Nat} (hk : k < xs.length) : topOf (xs.take (k + 1)) = max (topOf (xs.take k)) (xs.getD k 0) := by
  unfold topOf
  rw [List.take_add_one, List.foldl_append, List.getElem?_eq_getElem hk, List.getD_eq_getElem?_getD, List.getElem?_eq_getElem hk]
  rfl
set_option maxHeartbeats 1000000 in
theorem ref_top (v : Value) (base : Nat) (xs : List Nat) (w : World) (hr : Row w base v xs) : Calls Try.prog 15 #[.agg #[v]] w (RefPost (.tuple #[.int .u64 (topOf xs), .bool (decide (0 < xs.length))]) w) := by
  obtain ⟨a, c, hv, hi⟩ := hr.ints
  have HI := Lib.hid hi
  have hn := hi.2.1
  clear hr hi
  subst hv
  go_enter Try.func15, Try.ntmps15
  go_wp2_with fail
  go_loopw [4, 5] (fun vn i wr => ∃ (k : Nat), k ≤ xs.length ∧ i = .int .i64 k ∧ vn = .int .u64 (topOf (xs.take k)) ∧ Hid (Own wr w.heap.size 38 #[.slice a xs.length c] ∧ Below w.heap.size w wr)) (fun _ i _ => xs.length - (intOf i).toNat)
  case atStart => exact ⟨0, by omega, rfl, rfl, Own.new w _ _, (Below.refl _ _).alloc (Nat.le_refl _) _⟩
  case round =>
    obtain ⟨k, hk, rfl, rfl, hO⟩ := hrel
    have c0 := Own.cell hO.out.1 0
    simp only [List.getElem?_toArray, List.getElem?_cons_zero] at c0
    by_cases hkn : k < xs.length
    · obtain ⟨bl, off, rfl, hbl, hc⟩ := HI.out.2.2 (by omega)
      have hcell := (hO.out.2.cell hbl).trans (hc k hkn)
      have HN := Lib.hid (top_next xs hkn)
      obtain ⟨x, hxe⟩ : ∃ x, x = xs.getD k 0 := ⟨_, rfl⟩
      obtain ⟨t, hte⟩ : ∃ t, t = topOf (xs.take k) := ⟨_, rfl⟩
      rw [← hxe] at hcell HN
      rw [← hte] at HN ⊢
      clear hc hxe hte
      by_cases hd : t < x
      · have hd' : (t : Int) < x := by omega
        go_wp2_with fail
        go_roundw
        case rel => exact ⟨k + 1, by omega, by go_num, by rw [HN.out, Nat.max_eq_right (by omega)], hO⟩
        case measure => simp [intOf]; omega
      · have hd' : (x : Int) ≤ t := by omega
        go_wp2_with fail
        go_roundw
        case rel => exact ⟨k + 1, by omega, by go_num, by rw [HN.out, Nat.max_eq_left (by omega)], hO⟩
        case measure => simp [intOf]; omega
    · obtain rfl : k = xs.length := by omega
      rw [List.take_length]
      go_wp2_with fail
      refine wp_region_bits [(0, true), (1, true), (2, true), (3, true), (4, true), (5, true), (6, true)] [] (by kernel_rfl) (by kernel_rfl) (fun c a d v w h => by cases d <;> exact h) ?_
      simp only [bits_, bitOf, List.getElem?_cons_zero, List.getElem?_cons_succ, List.contains_nil]
      repeat (first
        | (refine bits_take (v := ?_) (by rfl) ?_ ?_; rotate_left; (· intro w' hS; go_simp; (repeat (rw [hS.at_]; rotate_left; (· go_simp); go_simp)); (try (go_ints; try go_simp)); with_reducible rfl); (try simp only [Act.put, List.setIfInBounds_toArray, List.set_cons_zero, List.set_cons_succ]))
        | (refine bits_skip (by rfl) ?_; (try simp only [Act.put, List.setIfInBounds_toArray, List.set_cons_zero, List.set_cons_succ]))
        | (refine bits_pass (by rfl) ?_ ?_; (· repeat (first | (with_reducible (first | exact Keep.refl _ | refine Keep.left _ ?_ | refine Keep.drew ?_ | refine Keep.drewN ?_ _ | refine Keep.alloc ?_ _)) | (refine Keep.below ?_ (by assumption)))); (try simp only [Act.put, List.setIfInBounds_toArray, List.set_cons_zero, List.set_cons_succ]))
        | (refine bits_eff (by rfl) (fun K hK => ?_); go_simp; (try go_ints); (first | go_at_K); refine hK _ _ ?_ ?_; (· repeat (first | (with_reducible (first | exact Keep.refl _ | refine Keep.left _ ?_ | refine Keep.drew ?_ | refine Keep.drewN ?_ _ | refine Keep.alloc ?_ _)) | (refine Keep.below ?_ (by assumption)))); clear hK K; (try simp only [Act.put, List.setIfInBounds_toArray, List.set_cons_zero, List.set_cons_succ])))
      refine bits_nil ?_
      go_wp2_with fail
      go_ret2
      have hO2 := hO.out.2
      exact ⟨by simp, below_drewN hO2 1⟩
def rchk (xs : List Nat) (n : Nat) : Nat := if 4611686018427387904 < n then 1 else if 0 < xs.length ∧ n < topOf xs ∧ 64 ≤ topOf xs - n then 10 else if n ∈ xs then 10 else 0
theorem ref_top_at {v : Value} {base : Nat} {xs : List Nat} {w : World} (hr : Row w base v xs) {t : Nat} (ht : topOf xs = t) {b : Bool} (hb : decide (0 < xs.length) = b) : Calls Try.prog 15 #[.agg #[v]] w (RefPost (.tuple #[.int .u64 t, .bool b]) w) := by
  subst ht hb
  exact ref_top v base xs w hr
theorem beq_no {x n : Nat} (h : ¬ x = n) : ((x : Int) == (n : Int)) = false := beq_eq_false_iff_ne.2 (fun k => h (by omega))
theorem top_le {m : Nat} : ∀ {xs : List Nat}, (∀ x ∈ xs, x ≤ m) → topOf xs ≤ m := by
  have : ∀ (xs : List Nat) (a : Nat), a ≤ m → (∀ x ∈ xs, x ≤ m) → xs.foldl max a ≤ m := by
    intro xs
    induction xs with
    | nil => exact fun a h _ => h
    | cons x l ih => exact fun a h hl => ih _ (by have := hl x List.mem_cons_self; omega) (fun y hy => hl y (List.mem_cons_of_mem _ hy))
  exact fun {xs} h => this xs 0 (by omega) h
theorem mem_of_at {xs : List Nat} {k x : Nat} (h : x = xs.getD k 0) (hk : k < xs.length) : x ∈ xs := by
  rw [h, List.getD_eq_getElem?_getD, List.getElem?_eq_getElem hk]
  exact List.getElem_mem _
theorem not_mem_of_at {xs : List Nat} {n : Nat} (h : ∀ j, j < xs.length → xs.getD j 0 ≠ n) : ¬ n ∈ xs := by
  intro hm
  obtain ⟨j, hj, e⟩ := List.mem_iff_getElem.1 hm
  refine h j hj ?_
  rw [List.getD_eq_getElem?_getD, List.getElem?_eq_getElem hj]
  exact e
set_option maxHeartbeats 1000000 in
theorem ref_check (v : Value) (base : Nat) (xs : List Nat) (n : Nat) (w : World) (hr : Row w base v xs) (hx : ∀ x ∈ xs, x ≤ 4611686018427387904) : Calls Try.prog 12 #[.agg #[v], .int .u64 n] w (RefPost (.int .i64 (rchk xs n)) w) := by
  obtain ⟨a, c, hv, hi⟩ := hr.ints
  subst hv
  have HI := Lib.hid hi
  have hn := hi.2.1
  by_cases h1 : 4611686018427387904 < n
  · have HR : Hid (rchk xs n = 1) := if_pos h1
    clear hr hi hx
    go_enter Try.func12, Try.ntmps12
    go_wp2_with fail
    go_ret
    refine ⟨by rw [HR.out]; rfl, ?_⟩
    repeat (first | (with_reducible (first | exact Below.refl _ _ | refine below_drewN ?_ _ | refine Below.drew ?_ | refine Below.alloc ?_ (by first | omega | (simp; done) | (simp; omega)) _)) | (refine Below.trans ?_ ((by assumption : Below _ _ _).mono (by first | omega | (simp; done) | (simp; omega)))))
  · have h1' : n ≤ 4611686018427387904 := by omega
    have HC0 : Hid (rchk xs n = if 0 < xs.length ∧ n < topOf xs ∧ 64 ≤ topOf xs - n then 10 else if n ∈ xs then 10 else 0) := if_neg h1
    obtain ⟨t, ht⟩ : ∃ t, topOf xs = t := ⟨_, rfl⟩
    rw [ht] at HC0
    have ht2 := top_le hx
    rw [ht] at ht2
    have after : ∀ w2, Below (w.heap.size + 1) (w.alloc (.cells #[.slice a xs.length c] 38)) w2 → Hid (Own w2 w.heap.size 38 #[.slice a xs.length c] ∧ Below w.heap.size w w2) := fun w2 hb2 =>
      ⟨Own.below (Own.new w _ _) hb2 (by omega), ((Below.refl _ _).alloc (Nat.le_refl _) _).trans (hb2.mono (by omega))⟩
    have AFTER := Lib.hid after
    have HTR : ∀ b : Bool, decide (0 < xs.length) = b → Hid (Calls Try.prog 15 #[.agg #[.slice a xs.length c]] (w.alloc (.cells #[.slice a xs.length c] 38)) (RefPost (.tuple #[.int .u64 t, .bool b]) (w.alloc (.cells #[.slice a xs.length c] 38)))) := fun b hb => ref_top_at (hr.alloc _) ht hb
    have HTR' := Lib.hid HTR
    clear hr hi ht h1 after HTR hx
    by_cases hl : 0 < xs.length
    · have HB := Lib.hid (decide_eq_true hl)
      by_cases hnt : n < t
      · obtain ⟨j, rfl⟩ : ∃ j, t = n + j := ⟨t - n, by omega⟩
        have hj2 : j ≤ 4611686018427387904 := by omega
        have hnj : (n : Int) + (j : Int) - (n : Int) = (j : Int) := by omega
        have hlt' : decide ((n : Int) < (n : Int) + (j : Int)) = true := decide_eq_true (by omega)
        simp only [Nat.add_sub_cancel_left] at HC0
        by_cases hj : 64 ≤ j
        · have hj' : decide ((64 : Int) ≤ (j : Int)) = true := decide_eq_true (by omega)
          have HR := Lib.hid (HC0.out.trans (if_pos ⟨hl, by omega, hj⟩))
          clear hnt
          go_enter Try.func12, Try.ntmps12
          go_wp2_with fail
          refine ((HTR'.out true HB.out).out).mono ?_
          rintro e w2 ⟨rfl, hb2⟩
          simp only [World.size_alloc] at hb2
          have HO := AFTER.out w2 hb2
          clear hb2
          go_wp2_with fail
          go_ret
          exact ⟨by rw [HR.out]; rfl, HO.out.2⟩
        · have hj' : decide ((64 : Int) ≤ (j : Int)) = false := decide_eq_false (by omega)
          have HC := Lib.hid (HC0.out.trans (if_neg (by omega)))
          have hj4 : j ≤ 64 := by omega
          clear hnt
          go_enter Try.func12, Try.ntmps12
          go_wp2_with fail
          refine ((HTR'.out true HB.out).out).mono ?_
          rintro e w2 ⟨rfl, hb2⟩
          simp only [World.size_alloc] at hb2
          have HO := AFTER.out w2 hb2
          clear hb2
          go_wp2_with fail
          go_loopw [7] (fun i wr => ∃ (k : Nat), k ≤ xs.length ∧ i = .int .i64 k ∧ Hid ((∀ j, j < k → xs.getD j 0 ≠ n) ∧ Own wr w.heap.size 38 #[.slice a xs.length c] ∧ Below w.heap.size w wr)) (fun i _ => xs.length - (intOf i).toNat)
          case atStart => exact ⟨0, by omega, rfl, fun j hj => absurd hj (by omega), HO.out⟩
          case round =>
            obtain ⟨k, hk, rfl, hO⟩ := hrel
            have d0 := Own.cell hO.out.2.1 0
            simp only [List.getElem?_toArray, List.getElem?_cons_zero] at d0
            by_cases hkn : k < xs.length
            · obtain ⟨bl, off, rfl, hbl, hc⟩ := HI.out.2.2 (by omega)
              have hcell := (hO.out.2.2.cell hbl).trans (hc k hkn)
              obtain ⟨x, hxe⟩ : ∃ x, x = xs.getD k 0 := ⟨_, rfl⟩
              have HXE := Lib.hid hxe
              rw [← hxe] at hcell
              clear hc hxe
              by_cases hx : x = n
              · subst hx
                have HR := Lib.hid (HC.out.trans (if_pos (mem_of_at HXE.out hkn)))
                go_wp2_with fail
                go_ret
                exact ⟨by rw [HR.out]; rfl, hO.out.2.2⟩
              · have hx' := beq_no hx
                have hnew : Hid ((∀ j, j < k + 1 → xs.getD j 0 ≠ n) ∧ Own wr w.heap.size 38 #[.slice (some ⟨bl, off, none⟩) xs.length c] ∧ Below w.heap.size w wr) := by
                  refine ⟨fun j hj => ?_, hO.out.2⟩
                  rcases Nat.lt_or_ge j k with h | h
                  · exact hO.out.1 j h
                  · obtain rfl : j = k := by omega
                    rw [← HXE.out]
                    exact hx
                clear hx
                go_wp2_with fail
                go_roundw
                case rel => exact ⟨k + 1, by omega, by go_num, hnew⟩
                case measure => simp [intOf]; omega
            · obtain rfl : k = xs.length := by omega
              have HR := Lib.hid (HC.out.trans (if_neg (not_mem_of_at hO.out.1)))
              go_wp2_with fail
              go_ret
              exact ⟨by rw [HR.out]; rfl, hO.out.2.2⟩
      · have hlt' : decide ((n : Int) < (t : Int)) = false := decide_eq_false (by omega)
        have HC := Lib.hid (HC0.out.trans (if_neg (by omega)))
        go_enter Try.func12, Try.ntmps12
        go_wp2_with fail
        refine ((HTR'.out true HB.out).out).mono ?_
        rintro e w2 ⟨rfl, hb2⟩
        simp only [World.size_alloc] at hb2
        have HO := AFTER.out w2 hb2
        clear hb2
        go_wp2_with fail
        go_loopw [7] (fun i wr => ∃ (k : Nat), k ≤ xs.length ∧ i = .int .i64 k ∧ Hid ((∀ j, j < k → xs.getD j 0 ≠ n) ∧ Own wr w.heap.size 38 #[.slice a xs.length c] ∧ Below w.heap.size w wr)) (fun i _ => xs.length - (intOf i).toNat)
        case atStart => exact ⟨0, by omega, rfl, fun j hj => absurd hj (by omega), HO.out⟩
        case round =>
          obtain ⟨k, hk, rfl, hO⟩ := hrel
          have d0 := Own.cell hO.out.2.1 0
          simp only [List.getElem?_toArray, List.getElem?_cons_zero] at d0
          by_cases hkn : k < xs.length
          · obtain ⟨bl, off, rfl, hbl, hc⟩ := HI.out.2.2 (by omega)
            have hcell := (hO.out.2.2.cell hbl).trans (hc k hkn)
            obtain ⟨x, hxe⟩ : ∃ x, x = xs.getD k 0 := ⟨_, rfl⟩
            have HXE := Lib.hid hxe
            rw [← hxe] at hcell
            clear hc hxe
            by_cases hx : x = n
            · subst hx
              have HR := Lib.hid (HC.out.trans (if_pos (mem_of_at HXE.out hkn)))
              go_wp2_with fail
              go_ret
              exact ⟨by rw [HR.out]; rfl, hO.out.2.2⟩
            · have hx' := beq_no hx
              have hnew : Hid ((∀ j, j < k + 1 → xs.getD j 0 ≠ n) ∧ Own wr w.heap.size 38 #[.slice (some ⟨bl, off, none⟩) xs.length c] ∧ Below w.heap.size w wr) := by
                refine ⟨fun j hj => ?_, hO.out.2⟩
                rcases Nat.lt_or_ge j k with h | h
                · exact hO.out.1 j h
                · obtain rfl : j = k := by omega
                  rw [← HXE.out]
                  exact hx
              clear hx
              go_wp2_with fail
              go_roundw
              case rel => exact ⟨k + 1, by omega, by go_num, hnew⟩
              case measure => simp [intOf]; omega
          · obtain rfl : k = xs.length := by omega
            have HR := Lib.hid (HC.out.trans (if_neg (not_mem_of_at hO.out.1)))
            go_wp2_with fail
            go_ret
            exact ⟨by rw [HR.out]; rfl, hO.out.2.2⟩
    · have HB := Lib.hid (decide_eq_false hl)
      have HC := Lib.hid (HC0.out.trans (if_neg (by omega)))
      clear hl
      go_enter Try.func12, Try.ntmps12
      go_wp2_with fail
      refine ((HTR'.out false HB.out).out).mono ?_
      rintro e w2 ⟨rfl, hb2⟩
      simp only [World.size_alloc] at hb2
      have HO := AFTER.out w2 hb2
      clear hb2
      go_wp2_with fail
      go_loopw [7] (fun i wr => ∃ (k : Nat), k ≤ xs.length ∧ i = .int .i64 k ∧ Hid ((∀ j, j < k → xs.getD j 0 ≠ n) ∧ Own wr w.heap.size 38 #[.slice a xs.length c] ∧ Below w.heap.size w wr)) (fun i _ => xs.length - (intOf i).toNat)
      case atStart => exact ⟨0, by omega, rfl, fun j hj => absurd hj (by omega), HO.out⟩
      case round =>
        obtain ⟨k, hk, rfl, hO⟩ := hrel
        have d0 := Own.cell hO.out.2.1 0
        simp only [List.getElem?_toArray, List.getElem?_cons_zero] at d0
        by_cases hkn : k < xs.length
        · obtain ⟨bl, off, rfl, hbl, hc⟩ := HI.out.2.2 (by omega)
          have hcell := (hO.out.2.2.cell hbl).trans (hc k hkn)
          obtain ⟨x, hxe⟩ : ∃ x, x = xs.getD k 0 := ⟨_, rfl⟩
          have HXE := Lib.hid hxe
          rw [← hxe] at hcell
          clear hc hxe
          by_cases hx : x = n
          · subst hx
            have HR := Lib.hid (HC.out.trans (if_pos (mem_of_at HXE.out hkn)))
            go_wp2_with fail
            go_ret
            exact ⟨by rw [HR.out]; rfl, hO.out.2.2⟩
          · have hx' := beq_no hx
            have hnew : Hid ((∀ j, j < k + 1 → xs.getD j 0 ≠ n) ∧ Own wr w.heap.size 38 #[.slice (some ⟨bl, off, none⟩) xs.length c] ∧ Below w.heap.size w wr) := by
              refine ⟨fun j hj => ?_, hO.out.2⟩
              rcases Nat.lt_or_ge j k with h | h
              · exact hO.out.1 j h
              · obtain rfl : j = k := by omega
                rw [← HXE.out]
                exact hx
            clear hx
            go_wp2_with fail
            go_roundw
            case rel => exact ⟨k + 1, by omega, by go_num, hnew⟩
            case measure => simp [intOf]; omega
        · obtain rfl : k = xs.length := by omega
          have HR := Lib.hid (HC.out.trans (if_neg (not_mem_of_at hO.out.1)))
          go_wp2_with fail
          go_ret
          exact ⟨by rw [HR.out]; rfl, hO.out.2.2⟩
end Go.Proofs.Ytnjneljlphilnaa
