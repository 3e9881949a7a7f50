/- The document's guard takes a number. -/
import Derived.Test.YtnjneljlphilnaaRef
namespace Go.Proofs.Ytnjneljlphilnaa
open Go.RowKit
attribute [local go_sem] alloc_drewN setCell_drewN


theorem ref_check_at {v : Value} {base : Nat} {xs : List Nat} {n : Nat} {w : World} (hr : Row w base v xs) (hx : ∀ x ∈ xs, x ≤ 4611686018427387904) {c : Nat} (hc : rchk xs n = c) : Calls Try.prog 12 #[.agg #[v], .int .u64 n] w (RefPost (.int .i64 c) w) := by
  subst hc
  exact ref_check v base xs n w hr hx
def TakenPost (xs : List Nat) (w : World) (e : Ending) (w' : World) : Prop := ∃ v', e = .returned (.tuple #[.int .i64 0, .agg #[v']]) ∧ Row w' w.heap.size v' xs ∧ Below w.heap.size w w'
theorem empty_row (w : World) : (w.alloc (.cells #[] 22)).ownsRow w.heap.size 22 1 (.slice (some ⟨w.heap.size, 0, none⟩) 0 0) 0 [] :=
  World.ownsRow_made (base := w.heap.size) (e := 22) (size := 1) w #[] 0 (Nat.le_refl _) (by decide) rfl
set_option maxHeartbeats 1000000 in
theorem ref_take_no (v : Value) (base : Nat) (xs : List Nat) (n : Nat) (w : World) (hr : Row w base v xs) (hx : ∀ x ∈ xs, x ≤ 4611686018427387904) (c : Nat) (hc : rchk xs n = c) (hc0 : ¬ c = 0) : Calls Try.prog 13 #[.agg #[v], .int .u64 n] w (RefPost (.tuple #[.int .i64 c, .agg #[v]]) w) := by
  obtain ⟨a, cv, hv, _⟩ := hr.ints
  subst hv
  have HR := Lib.hid hr
  have HX := Lib.hid hx
  have HC := Lib.hid hc
  have hcb : ((c : Int) == 0) = false := beq_no hc0
  clear hr hx hc hc0
  have hafter : ∀ w2, Below (w.heap.size + 2) ((w.alloc (.cells #[.slice a xs.length cv] 38)).alloc (.cells #[.slice none 0 0] 38)) w2 → Hid (Own w2 w.heap.size 38 #[.slice a xs.length cv] ∧ Own w2 (w.heap.size + 1) 38 #[.slice none 0 0] ∧ Row w2 base (.slice a xs.length cv) xs ∧ Below w.heap.size w w2) := fun w2 hb2 => by
    have h2 := Own.new (w.alloc (.cells #[.slice a xs.length cv] 38)) 38 #[.slice none 0 0]
    simp only [World.size_alloc] at h2
    have hs : ((w.alloc (.cells #[.slice a xs.length cv] 38)).alloc (.cells #[.slice none 0 0] 38)).heap.size = w.heap.size + 2 := by simp
    refine ⟨Own.below (Own.alloc (Own.new w _ _) _) hb2 (by omega), Own.below h2 hb2 (by omega), ((HR.out.alloc _).alloc _).below (by rw [hs]; exact hb2), ?_⟩
    exact (((Below.refl _ _).alloc (Nat.le_refl _) _).alloc (by simp) _).trans (hb2.mono (by omega))
  have AFTER := Lib.hid hafter
  clear hafter
  go_enter Try.func13, Try.ntmps13
  go_wp2_with fail
  refine (ref_check_at ((HR.out.alloc _).alloc _) HX.out HC.out).mono ?_
  rintro e w2 ⟨rfl, hb2⟩
  simp only [World.size_alloc] at hb2
  have HO := AFTER.out w2 hb2
  have c0 := Own.cell HO.out.1 0
  have c1 := Own.cell HO.out.2.1 0
  have f1 := Own.frozen HO.out.2.1 0
  have hlt := Own.lt HO.out.2.1
  have hlt0 := Own.lt HO.out.1
  simp only [List.getElem?_toArray, List.getElem?_cons_zero] at c0 c1
  clear hb2 AFTER
  go_wp2_with fail
  refine wp_region_bits [(0, true), (1, true), (2, true), (3, false)] [3] (by kernel_rfl) (by kernel_rfl) (fun c a d v w h => by cases d <;> exact h) ?_
  simp only [bits_, bitOf, List.getElem?_cons_zero, List.getElem?_cons_succ, List.contains_nil, List.contains_cons, Nat.reduceBEq, Bool.or_false]
  repeat (first
    | (refine bits_take (v := ?_) (by rfl) ?_ ?_; rotate_left; (· intro w' hS; go_simp; (repeat (rw [hS.at_]; rotate_left; (· go_simp); go_simp)); (try (go_ints; try go_simp)); with_reducible rfl); (try simp only [Act.put, List.setIfInBounds_toArray, List.set_cons_zero, List.set_cons_succ]))
    | (refine bits_skip (by rfl) ?_; (try simp only [Act.put, List.setIfInBounds_toArray, List.set_cons_zero, List.set_cons_succ]))
    | (refine bits_pass_tail (by rfl) ?_; (try simp only [Act.put, List.setIfInBounds_toArray, List.set_cons_zero, List.set_cons_succ]))
    | (refine bits_tail (by rfl) (fun K hK => ?_); go_simp; (try go_ints); (first | go_at_K); refine hK _ _ ?_; clear hK K; (try simp only [Act.put, List.setIfInBounds_toArray, List.set_cons_zero, List.set_cons_succ]))
    | (refine bits_pass (by rfl) ?_ ?_; (· repeat (first | (with_reducible (first | exact Keep.refl _ | refine Keep.left _ ?_ | refine Keep.drew ?_ | refine Keep.drewN ?_ _ | refine Keep.alloc ?_ _)) | (refine Keep.below ?_ (by assumption)))); (try simp only [Act.put, List.setIfInBounds_toArray, List.set_cons_zero, List.set_cons_succ]))
    | (refine bits_eff (by rfl) (fun K hK => ?_); go_simp; (try go_ints); (first | go_at_K); refine hK _ _ ?_ ?_; (· repeat (first | (with_reducible (first | exact Keep.refl _ | refine Keep.left _ ?_ | refine Keep.drew ?_ | refine Keep.drewN ?_ _ | refine Keep.alloc ?_ _)) | (refine Keep.below ?_ (by assumption)))); clear hK K; (try simp only [Act.put, List.setIfInBounds_toArray, List.set_cons_zero, List.set_cons_succ])))
  refine bits_nil ?_
  go_wp2_with fail
  refine bodyPost_ret (v := .tuple #[.int .i64 c, .agg #[.slice a xs.length cv]]) (by simp [results, Try.results13, go_sem, c1]) rfl ?_
  have hO2 := HO.out.2.2.2
  exact ⟨rfl, below_drewN (hO2.setCell (p := ⟨w.heap.size + 1, 0, none⟩) (by simp) _) 1⟩
set_option maxHeartbeats 1000000 in
theorem ref_take_yes (v : Value) (base : Nat) (xs : List Nat) (n : Nat) (w : World) (hr : Row w base v xs) (hx : ∀ x ∈ xs, x ≤ 4611686018427387904) (hc : rchk xs n = 0) (hl : xs.length ≤ 1000) : Calls Try.prog 13 #[.agg #[v], .int .u64 n] w (TakenPost (xs ++ [n]) w) := by
  obtain ⟨a, cv, hv, _⟩ := hr.ints
  subst hv
  have HR := Lib.hid hr
  have HX := Lib.hid hx
  have HC := Lib.hid hc
  clear hr hx hc
  have hafter : ∀ w2, Below (w.heap.size + 2) ((w.alloc (.cells #[.slice a xs.length cv] 38)).alloc (.cells #[.slice none 0 0] 38)) w2 → Hid (Own w2 w.heap.size 38 #[.slice a xs.length cv] ∧ Own w2 (w.heap.size + 1) 38 #[.slice none 0 0] ∧ Row w2 base (.slice a xs.length cv) xs ∧ Below w.heap.size w w2) := fun w2 hb2 => by
    have h2 := Own.new (w.alloc (.cells #[.slice a xs.length cv] 38)) 38 #[.slice none 0 0]
    simp only [World.size_alloc] at h2
    have hs : ((w.alloc (.cells #[.slice a xs.length cv] 38)).alloc (.cells #[.slice none 0 0] 38)).heap.size = w.heap.size + 2 := by simp
    refine ⟨Own.below (Own.alloc (Own.new w _ _) _) hb2 (by omega), Own.below h2 hb2 (by omega), ((HR.out.alloc _).alloc _).below (by rw [hs]; exact hb2), ?_⟩
    exact (((Below.refl _ _).alloc (Nat.le_refl _) _).alloc (by simp) _).trans (hb2.mono (by omega))
  have AFTER := Lib.hid hafter
  clear hafter
  go_enter Try.func13, Try.ntmps13
  go_wp2_with fail
  refine (ref_check_at ((HR.out.alloc _).alloc _) HX.out HC.out).mono ?_
  rintro e w2 ⟨rfl, hb2⟩
  simp only [World.size_alloc] at hb2
  have HO := AFTER.out w2 hb2
  have c0 := Own.cell HO.out.1 0
  have c1 := Own.cell HO.out.2.1 0
  have f1 := Own.frozen HO.out.2.1 0
  have hlt := Own.lt HO.out.2.1
  have hlt0 := Own.lt HO.out.1
  simp only [List.getElem?_toArray, List.getElem?_cons_zero] at c0 c1
  clear hb2 AFTER
  go_wp2_with (first
    | (at_builtin; refine app_all rfl _ _ rfl rfl (empty_row w2) rfl (HO.out.2.2.1.alloc _) (by omega) (lo := w2.heap.size) (by simp) ?_; intro v3 w3 r3 b3)
    | (at_builtin; refine app_one rfl _ _ rfl rfl (by exact r3.alloc _) rfl (by exact Own.cell (Own.new w3 22 #[.int .u64 n]) 0) (by omega) (by have := b3.size; simp at this ⊢; omega) ?_; intro v4 w4 r4 b4; obtain ⟨a4, c4, rfl, _⟩ := r4.ints; have o5 := Own.below ((Own.below (HO.out.2.1.alloc (.cells #[] 22)) b3 hlt).alloc (.cells #[.int .u64 n] 22)) b4 hlt; have c50 := Own.cell o5 0; have f50 := Own.frozen o5 0; simp only [List.getElem?_toArray, List.getElem?_cons_zero] at c50)
    | go_in)
  refine bodyPost_ret (v := .tuple #[.int .i64 0, .agg #[.slice a4 (xs.length + 1) c4]]) (by simp [results, Try.results13, go_sem, c50]) rfl ?_
  refine ⟨_, rfl, ?_, ?_⟩
  · have h1 := r4.store (g := w.heap.size + 1) (i := 0) (by omega) (.slice a4 (xs.length + 1) c4)
    have h3 := h1.up (show w.heap.size ≤ w2.heap.size by omega)
    rw [List.length_append] at h3
    exact h3
  · have h1 := HO.out.2.2.2
    have h2 := (h1.alloc h1.size (.cells #[] 22)).trans (b3.mono (by omega))
    have h3 := (h2.alloc h2.size (.cells #[.int .u64 n] 22)).trans (b4.mono (by omega))
    exact h3.setCell (p := ⟨w.heap.size + 1, 0, none⟩) (by simp) _
end Go.Proofs.Ytnjneljlphilnaa
