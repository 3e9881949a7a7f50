/- The document's timer: its functions, over the list of samples. -/
import Derived.Test.YtnnghceapkkklaaFixed
import Derived.Test.YtnnghceapkkklaaAppRow
namespace Go.Proofs.Ytnnghceapkkklaa
open Go.RowKit
attribute [local go_sem] alloc_drewN setCell_drewN


theorem empty_row (w : World) (o1 o2 : Obj) : (((w.alloc o1).alloc o2).alloc (.cells #[] 3)).ownsRow (w.heap.size + 2) 3 1 (.slice (some ⟨w.heap.size + 1 + 1, 0, none⟩) 0 0) 0 [] := by
  have h := World.ownsRow_made (base := w.heap.size + 2) (e := 3) (size := 1) ((w.alloc o1).alloc o2) #[] 0 (by simp) (by decide) rfl
  simpa using h
theorem second_own (w : World) (o1 o3 : Obj) (t : TypeId) (cs : Array Value) : Own (((w.alloc o1).alloc (.cells cs t)).alloc o3) (w.heap.size + 1) t cs := by
  have h := Own.new (w.alloc o1) t cs
  simp only [World.size_alloc] at h
  exact h.alloc o3
def SamplePost (base : Nat) (xs : List Nat) (w : World) (e : Ending) (w' : World) : Prop := ∃ v', e = .returned (.tuple #[.int .i64 0, .agg #[v', .int .i64 0]]) ∧ Row w' base v' xs ∧ Below w.heap.size w w'
set_option maxHeartbeats 1000000 in
theorem ref_sample_yes (v : Value) (b : Int) (base : Nat) (xs : List Nat) (x : Nat) (w : World) (hr : Row w base v xs) (hx : x ≤ 10000) (hl : xs.length ≤ 1000) : Calls Try.prog 11 #[.agg #[v, .int .i64 b], .int .i64 x] w (SamplePost w.heap.size (xs ++ [x]) w) := by
  obtain ⟨a, c, hv, _⟩ := hr.ints
  have HR := Lib.hid hr
  clear hr
  subst hv
  go_enter Try.func11, Try.ntmps11
  go_wp2_with (first
    | (at_builtin; refine app_all rfl _ _ rfl rfl (empty_row w _ _) rfl (((HR.out.alloc _).alloc _).alloc _) (by omega) (lo := w.heap.size + 2) (by simp) ?_; intro v1 w1 r1 b1)
    | (at_builtin; refine app_one rfl _ _ rfl rfl (by exact r1.alloc _) rfl (by exact Own.cell (Own.new w1 3 #[.int .i64 x]) 0) (by omega) (by have := b1.size; simp at this ⊢; omega) ?_; intro v2 w2 r2 b2; obtain ⟨a2, c2, rfl, _⟩ := r2.ints; have o5 := Own.below ((Own.below (second_own w (.cells #[.slice a xs.length c, .int .i64 b] 27) (.cells #[] 3) 27 #[.slice none 0 0, .int .i64 0]) b1 (by omega)).alloc (.cells #[.int .i64 x] 3)) b2 (by omega); have c50 := Own.cell o5 0; have c51 := Own.cell o5 1; have f50 := Own.frozen o5 0; have f51 := Own.frozen o5 1; simp only [List.getElem?_toArray, List.getElem?_cons_zero, List.getElem?_cons_succ] at c50 c51)
    | go_in)
  refine bodyPost_ret (v := .tuple #[.int .i64 0, .agg #[.slice a2 (xs.length + 1) c2, .int .i64 0]]) (by simp [results, Try.results11, go_sem, c50, c51]) rfl ?_
  refine ⟨_, rfl, ?_, ?_⟩
  · have h1 := r2.store (g := w.heap.size + 1) (i := 0) (by omega) (.slice a2 (xs.length + 1) c2)
    have h2 := h1.store (g := w.heap.size + 1) (i := 1) (by omega) (.int .i64 0)
    have h3 := h2.up (show w.heap.size ≤ w.heap.size + 2 by omega)
    rw [List.length_append] at h3
    exact h3
  · have h1 := (((Below.refl w.heap.size w).alloc (Nat.le_refl _) (.cells #[.slice a xs.length c, .int .i64 b] 27)).alloc (by simp) (.cells #[.slice none 0 0, .int .i64 0] 27)).alloc (by simp; omega) (.cells #[] 3)
    have h2 := h1.trans (b1.mono (by omega))
    have h3 := (h2.alloc h2.size (.cells #[.int .i64 x] 3)).trans (b2.mono (by omega))
    exact (h3.setCell (p := ⟨w.heap.size + 1, 0, none⟩) (by simp) _).setCell (p := ⟨w.heap.size + 1, 1, none⟩) (by simp) _
def RefPost (c : Value) (w : World) (e : Ending) (w' : World) : Prop := e = .returned c ∧ Below w.heap.size w w'
set_option maxHeartbeats 1000000 in
theorem ref_sample_no (v : Value) (b : Int) (base : Nat) (xs : List Nat) (x : Int) (w : World) (hr : Row w base v xs) (hx : x < 0 ∨ 10000 < x) : Calls Try.prog 11 #[.agg #[v, .int .i64 b], .int .i64 x] w (RefPost (.tuple #[.int .i64 1, .agg #[v, .int .i64 b]]) w) := by
  obtain ⟨a, c, hv, _⟩ := hr.ints
  have HR := Lib.hid hr
  clear hr
  subst hv
  rcases hx with hx | hx
  · go_enter Try.func11, Try.ntmps11
    go_wp2_with fail
    refine wp_region_bits [(0, true), (1, true), (2, false)] [2] (by kernel_rfl) (by kernel_rfl) (fun c a d v w h => by cases d <;> exact h) ?_
    simp only [bits_, bitOf, List.getElem?_cons_zero, List.getElem?_cons_succ, List.contains_nil, List.contains_cons, Nat.reduceBEq, Bool.or_false]
    repeat (first
      | (refine bits_take (v := ?_) (by rfl) ?_ ?_; rotate_left; (· intro w' hS; go_simp; (repeat (rw [hS.at_]; rotate_left; (· go_simp); go_simp)); (try (go_ints; try go_simp)); with_reducible rfl); (try simp only [Act.put, List.setIfInBounds_toArray, List.set_cons_zero, List.set_cons_succ]))
      | (refine bits_skip (by rfl) ?_; (try simp only [Act.put, List.setIfInBounds_toArray, List.set_cons_zero, List.set_cons_succ]))
      | (refine bits_pass_tail (by rfl) ?_; (try simp only [Act.put, List.setIfInBounds_toArray, List.set_cons_zero, List.set_cons_succ]))
      | (refine bits_tail (by rfl) (fun K hK => ?_); go_simp; (try go_ints); (first | go_at_K); refine hK _ _ ?_; clear hK K; (try simp only [Act.put, List.setIfInBounds_toArray, List.set_cons_zero, List.set_cons_succ]))
      | (refine bits_pass (by rfl) ?_ ?_; (· repeat (first | (with_reducible (first | exact Keep.refl _ | refine Keep.left _ ?_ | refine Keep.drew ?_ | refine Keep.drewN ?_ _ | refine Keep.alloc ?_ _)) | (refine Keep.below ?_ (by assumption)))); (try simp only [Act.put, List.setIfInBounds_toArray, List.set_cons_zero, List.set_cons_succ]))
      | (refine bits_eff (by rfl) (fun K hK => ?_); go_simp; (try go_ints); (first | go_at_K); refine hK _ _ ?_ ?_; (· repeat (first | (with_reducible (first | exact Keep.refl _ | refine Keep.left _ ?_ | refine Keep.drew ?_ | refine Keep.drewN ?_ _ | refine Keep.alloc ?_ _)) | (refine Keep.below ?_ (by assumption)))); clear hK K; (try simp only [Act.put, List.setIfInBounds_toArray, List.set_cons_zero, List.set_cons_succ])))
    refine bits_nil ?_
    go_wp2_with fail
    refine bodyPost_ret (v := .tuple #[.int .i64 1, .agg #[.slice a xs.length c, .int .i64 b]]) (by simp [results, Try.results11, go_sem]) rfl ?_
    refine ⟨rfl, ?_⟩
    repeat (first | (with_reducible (first | exact Below.refl _ _ | refine below_drewN ?_ _ | refine Below.drew ?_ | refine Below.alloc ?_ (by first | omega | (simp; done) | (simp; omega)) _)) | (refine Below.trans ?_ ((by assumption : Below _ _ _).mono (by first | omega | (simp; done) | (simp; omega)))))
  · have hx0 : 0 ≤ x := by omega
    go_enter Try.func11, Try.ntmps11
    go_wp2_with fail
    refine wp_region_bits [(0, true), (1, true), (2, false)] [2] (by kernel_rfl) (by kernel_rfl) (fun c a d v w h => by cases d <;> exact h) ?_
    simp only [bits_, bitOf, List.getElem?_cons_zero, List.getElem?_cons_succ, List.contains_nil, List.contains_cons, Nat.reduceBEq, Bool.or_false]
    repeat (first
      | (refine bits_take (v := ?_) (by rfl) ?_ ?_; rotate_left; (· intro w' hS; go_simp; (repeat (rw [hS.at_]; rotate_left; (· go_simp); go_simp)); (try (go_ints; try go_simp)); with_reducible rfl); (try simp only [Act.put, List.setIfInBounds_toArray, List.set_cons_zero, List.set_cons_succ]))
      | (refine bits_skip (by rfl) ?_; (try simp only [Act.put, List.setIfInBounds_toArray, List.set_cons_zero, List.set_cons_succ]))
      | (refine bits_pass_tail (by rfl) ?_; (try simp only [Act.put, List.setIfInBounds_toArray, List.set_cons_zero, List.set_cons_succ]))
      | (refine bits_tail (by rfl) (fun K hK => ?_); go_simp; (try go_ints); (first | go_at_K); refine hK _ _ ?_; clear hK K; (try simp only [Act.put, List.setIfInBounds_toArray, List.set_cons_zero, List.set_cons_succ]))
      | (refine bits_pass (by rfl) ?_ ?_; (· repeat (first | (with_reducible (first | exact Keep.refl _ | refine Keep.left _ ?_ | refine Keep.drew ?_ | refine Keep.drewN ?_ _ | refine Keep.alloc ?_ _)) | (refine Keep.below ?_ (by assumption)))); (try simp only [Act.put, List.setIfInBounds_toArray, List.set_cons_zero, List.set_cons_succ]))
      | (refine bits_eff (by rfl) (fun K hK => ?_); go_simp; (try go_ints); (first | go_at_K); refine hK _ _ ?_ ?_; (· repeat (first | (with_reducible (first | exact Keep.refl _ | refine Keep.left _ ?_ | refine Keep.drew ?_ | refine Keep.drewN ?_ _ | refine Keep.alloc ?_ _)) | (refine Keep.below ?_ (by assumption)))); clear hK K; (try simp only [Act.put, List.setIfInBounds_toArray, List.set_cons_zero, List.set_cons_succ])))
    refine bits_nil ?_
    go_wp2_with fail
    refine bodyPost_ret (v := .tuple #[.int .i64 1, .agg #[.slice a xs.length c, .int .i64 b]]) (by simp [results, Try.results11, go_sem]) rfl ?_
    refine ⟨rfl, ?_⟩
    repeat (first | (with_reducible (first | exact Below.refl _ _ | refine below_drewN ?_ _ | refine Below.drew ?_ | refine Below.alloc ?_ (by first | omega | (simp; done) | (simp; omega)) _)) | (refine Below.trans ?_ ((by assumption : Below _ _ _).mono (by first | omega | (simp; done) | (simp; omega)))))
theorem ref_back (v : Value) (b : Nat) (base : Nat) (xs : List Nat) (w : World) (hr : Row w base v xs) (hb : b ≤ 100) : Calls Try.prog 10 #[.agg #[v, .int .i64 b]] w (RefPost (.agg #[v, .int .i64 (min (b + 1) 100 : Nat)]) w) := by
  obtain ⟨a, c, hv, _⟩ := hr.ints
  have HR := Lib.hid hr
  clear hr
  subst hv
  go_enter Try.func10, Try.ntmps10
  go_wp2_with fail
  · have hm : min (b + 1) 100 = 100 := by omega
    rw [hm]
    refine bodyPost_ret (v := .agg #[.slice a xs.length c, .int .i64 100]) (by simp [results, Try.results10, go_sem]) rfl ?_
    refine ⟨rfl, ?_⟩
    repeat (first | (with_reducible (first | exact Below.refl _ _ | refine below_drewN ?_ _ | refine Below.drew ?_ | refine Below.alloc ?_ (by first | omega | (simp; done) | (simp; omega)) _)) | (refine Below.trans ?_ ((by assumption : Below _ _ _).mono (by first | omega | (simp; done) | (simp; omega)))))
  · have hm : min (b + 1) 100 = b + 1 := by omega
    rw [hm]
    refine bodyPost_ret (v := .agg #[.slice a xs.length c, .int .i64 ((b : Int) + 1)]) (by simp [results, Try.results10, go_sem]) rfl ?_
    refine ⟨by rw [Int.natCast_add]; rfl, ?_⟩
    repeat (first | (with_reducible (first | exact Below.refl _ _ | refine below_drewN ?_ _ | refine Below.drew ?_ | refine Below.alloc ?_ (by first | omega | (simp; done) | (simp; omega)) _)) | (refine Below.trans ?_ ((by assumption : Below _ _ _).mono (by first | omega | (simp; done) | (simp; omega)))))
def f (xs : List Nat) : St := xs.foldl smp s0
theorem f_next (xs : List Nat) {k : Nat} (hk : k < xs.length) : f (xs.take (k + 1)) = smp (f (xs.take k)) (xs.getD k 0) := by
  unfold f
  rw [List.take_add_one, List.foldl_append, List.getElem?_eq_getElem hk, List.getD_eq_getElem?_getD, List.getElem?_eq_getElem hk]
  rfl
theorem f_ok (xs : List Nat) (h : ∀ x ∈ xs, x ≤ 10000) : (f xs).ok := by
  unfold f
  have : ∀ (l : List Nat) (t : St), t.ok → (∀ x ∈ l, x ≤ 10000) → (l.foldl smp t).ok := by
    intro l
    induction l with
    | nil => exact fun t h _ => h
    | cons x l ih => exact fun t h hl => ih _ (smp_ok t x h (hl x List.mem_cons_self)) (fun y hy => hl y (List.mem_cons_of_mem _ hy))
  exact this xs s0 s0_ok h
def base0 (t : St) : Nat := if t.any = true then t.s / 8 + t.v else 16
theorem wt_base (t : St) (k : Nat) : wt ⟨t.any, t.s, t.v, k⟩ = min (max (base0 t) 4 * 2 ^ k) 64 := by
  unfold wt base0
  simp only
  split <;> rfl
theorem wait_step {M j p : Nat} (hM : 4 ≤ M) (hp : p = M * 2 ^ j) (h : p < 64) : j < 4 := by
  rcases Nat.lt_or_ge j 4 with k | k
  · exact k
  · have h1 : 2 ^ 4 ≤ 2 ^ j := Nat.pow_le_pow_right (by omega) k
    have h2 : 4 * 2 ^ 4 ≤ M * 2 ^ j := Nat.mul_le_mul hM h1
    omega
theorem wait_end {M j b p : Nat} (hp : p = M * 2 ^ j) (hj : j ≤ b) (hj5 : j ≤ 5) (h : ¬ j < b ∨ ¬ p < 64) : min (M * 2 ^ (min b 5)) 64 = min p 64 := by
  rcases h with h | h
  · have e : min b 5 = j := by omega
    rw [e, hp]
  · have h1 : 2 ^ j ≤ 2 ^ (min b 5) := Nat.pow_le_pow_right (by omega) (by omega)
    have h2 : M * 2 ^ j ≤ M * 2 ^ (min b 5) := Nat.mul_le_mul_left _ h1
    omega
def WRel (w wr : World) (a : Option Addr) (c b : Nat) (xs : List Nat) (k : Nat) (t : St) (vw vs vv : Value) : Prop :=
  f (xs.take k) = t ∧ t.ok ∧ t.any = decide (0 < k) ∧ (k = 0 → t.s = 0 ∧ t.v = 0) ∧ vs = .int .i64 t.s ∧ vv = .int .i64 t.v ∧ vw = .int .i64 (base0 t) ∧ Own wr w.heap.size 27 #[.slice a xs.length c, .int .i64 b] ∧ Below w.heap.size w wr
theorem ok_take (xs : List Nat) (h : ∀ x ∈ xs, x ≤ 10000) (k : Nat) : (f (xs.take k)).ok := f_ok _ (fun x hx => h x (List.mem_of_mem_take hx))
theorem WRel.next {w wr wr' : World} {a : Option Addr} {c b k : Nat} {xs : List Nat} {t : St} {vw vs vv vw' vs' vv' : Value} (h : WRel w wr a c b xs k t vw vs vv) (hx : ∀ x ∈ xs, x ≤ 10000) (hk : k < xs.length)
    (h1 : vs' = .int .i64 (smp t (xs.getD k 0)).s) (h2 : vv' = .int .i64 (smp t (xs.getD k 0)).v) (h3 : vw' = .int .i64 (base0 (smp t (xs.getD k 0)))) (ho : Own wr' w.heap.size 27 #[.slice a xs.length c, .int .i64 b]) (hb : Below w.heap.size w wr') :
    WRel w wr' a c b xs (k + 1) (smp t (xs.getD k 0)) vw' vs' vv' := by
  have h0 := f_next xs hk
  rw [h.1] at h0
  refine ⟨h0, by rw [← h0]; exact ok_take xs hx _, ?_, fun h => by omega, h1, h2, h3, ho, hb⟩
  unfold smp
  split <;> simp
set_option maxHeartbeats 1000000 in
theorem ref_wait (v : Value) (b : Nat) (base : Nat) (xs : List Nat) (w : World) (hr : Row w base v xs) (hb : b ≤ 100) (hx : ∀ x ∈ xs, x ≤ 10000) : Calls Try.prog 14 #[.agg #[v, .int .i64 b]] w (RefPost (.int .i64 (wt ⟨(f xs).any, (f xs).s, (f xs).v, min b 5⟩)) w) := by
  obtain ⟨a, c, hv, hi⟩ := hr.ints
  have HI := Lib.hid hi
  have HX := Lib.hid hx
  have hn := hi.2.1
  clear hr hi hx
  subst hv
  go_enter Try.func14, Try.ntmps14
  go_wp2_with fail
  go_loopw [3, 4, 5, 13] (fun vw vs vv i wr => ∃ (k : Nat) (t : St), k ≤ xs.length ∧ i = .int .i64 k ∧ WRel w wr a c b xs k t vw vs vv) (fun _ _ _ i _ => xs.length - (intOf i).toNat)
  case atStart => exact ⟨0, s0, by omega, rfl, rfl, s0_ok, rfl, fun _ => ⟨rfl, rfl⟩, rfl, rfl, rfl, Own.new w _ _, (Below.refl _ _).alloc (Nat.le_refl _) _⟩
  case round =>
    obtain ⟨k, t, hk, rfl, hW⟩ := hrel
    have HW := Lib.hid hW
    obtain ⟨ht, hok, hany, hz, rfl, rfl, rfl, hO, hB⟩ := hW
    have HT := Lib.hid ht
    have c0 := Own.cell hO 0
    have c1 := Own.cell hO 1
    simp only [List.getElem?_toArray, List.getElem?_cons_zero, List.getElem?_cons_succ] at c0 c1
    obtain ⟨ok1, ok2, ok3⟩ := hok
    have HO := Lib.hid hO
    clear hO ht
    by_cases hkn : k < xs.length
    · obtain ⟨bl, off, rfl, hbl, hc⟩ := HI.out.2.2 (by omega)
      have hcell := (hB.cell hbl).trans (hc k hkn)
      have hx10 : xs.getD k 0 ≤ 10000 := by
        rw [List.getD_eq_getElem?_getD, List.getElem?_eq_getElem hkn]
        exact HX.out _ (List.getElem_mem _)
      obtain ⟨x, hxe⟩ : ∃ x, x = xs.getD k 0 := ⟨_, rfl⟩
      rw [← hxe] at hcell hx10
      have HB := Lib.hid hB
      have HXE := Lib.hid hxe
      clear hc hB hxe
      obtain ⟨any, s, v, bk⟩ := t
      simp only at hany hz ok1 ok2 ok3 ⊢
      subst hany
      rcases Nat.eq_zero_or_pos k with rfl | hk0
      · obtain ⟨rfl, rfl⟩ := hz rfl
        clear hz
        rw [Nat.add_zero] at hcell
        go_wp2_with fail
        go_roundw
        case rel => exact ⟨0 + 1, _, by omega, rfl, HW.out.next HX.out hkn (by rw [← HXE.out]; exact congrArg _ (Int.natCast_mul 8 x).symm) (by rw [← HXE.out]; exact congrArg _ (Int.natCast_mul 2 x).symm) (by rw [← HXE.out]; exact congrArg _ (by simp [smp, base0])) HO.out HB.out⟩
        case measure => simp [intOf]; omega
      · have hk1 : decide (0 < k) = true := decide_eq_true hk0
        have hk2 : ((k : Int) == 0) = false := by simpa using (by omega : ¬ k = 0)
        have HK := Lib.hid hk1
        obtain ⟨q, hq⟩ : ∃ q : Nat, q = s / 8 := ⟨_, rfl⟩
        obtain ⟨r, hr⟩ : ∃ r : Nat, r = v / 4 := ⟨_, rfl⟩
        have hqi : (s : Int) / 8 = q := by omega
        have hri : (v : Int) / 4 = r := by omega
        have hq' : q ≤ 10001 := by omega
        have hr' : r ≤ 10001 := by omega
        have hqs : q ≤ s := by omega
        have hrv : r ≤ v := by omega
        have HQ := Lib.hid hq
        have HRR := Lib.hid hr
        have HSM : Hid (smp ⟨decide (0 < k), s, v, bk⟩ x = ⟨true, s - q + x, v - r + ((x - q) + (q - x)), 0⟩) := by
          rw [hk1, hq, hr]
          rfl
        clear hq hr hz hk1
        by_cases hd : q ≤ x
        · have hd' : ((x : Int) - (q : Int) < 0) = False := by simp; omega
          go_wp2_with fail
          go_roundw
          case rel => exact ⟨k + 1, _, by omega, by go_num, HW.out.next HX.out hkn (by rw [← HXE.out, HSM.out]; exact congrArg _ (by simp only; omega)) (by rw [← HXE.out, HSM.out]; exact congrArg _ (by simp only; omega)) (by rw [← HXE.out, HSM.out]; exact congrArg _ (by simp only [base0, if_true]; omega)) HO.out HB.out⟩
          case measure => simp [intOf]; omega
        · have hd' : ((x : Int) - (q : Int) < 0) = True := by simp; omega
          go_wp2_with fail
          go_roundw
          case rel => exact ⟨k + 1, _, by omega, by go_num, HW.out.next HX.out hkn (by rw [← HXE.out, HSM.out]; exact congrArg _ (by simp only; omega)) (by rw [← HXE.out, HSM.out]; exact congrArg _ (by simp only; omega)) (by rw [← HXE.out, HSM.out]; exact congrArg _ (by simp only [base0, if_true]; omega)) HO.out HB.out⟩
          case measure => simp [intOf]; omega
    · obtain rfl : k = xs.length := by omega
      have hB5 : base0 t ≤ 50010 := by
        unfold base0
        split <;> omega
      have HB := Lib.hid hB
      rw [List.take_length] at HT
      clear hany hz hB
      rw [HT.out]
      by_cases hB4 : base0 t < 4
      · have hB4' : decide ((base0 t : Int) < 4) = true := decide_eq_true (by omega)
        go_wp2_with fail
        have HM : Hid (max (base0 t) 4 = 4) := Nat.max_eq_right (by omega)
        have HE := Lib.hid (wt_base t (min b 5))
        rw [HM.out] at HE
        have hM4 : 4 ≤ 4 := by omega
        have hM5 : 4 ≤ 50010 := by omega
        go_loopw [3, 9] (fun vw i wz => ∃ (j p : Nat), j ≤ b ∧ j ≤ 5 ∧ i = .int .i64 j ∧ vw = .int .i64 p ∧ Hid (p = 4 * 2 ^ j) ∧ p ≤ 1700000 ∧ Hid (Own wz w.heap.size 27 #[.slice a xs.length c, .int .i64 b] ∧ Below w.heap.size w wz)) (fun _ i _ => b - (intOf i).toNat)
        case atStart => exact ⟨0, 4, by omega, by omega, rfl, rfl, by show 4 = 4 * 2 ^ 0; rw [Nat.pow_zero, Nat.mul_one], by omega, HO.out, HB.out⟩
        case round =>
          obtain ⟨j, p, hj, hj5, rfl, rfl, hp, hp2, hob⟩ := hrel
          have d0 := Own.cell hob.out.1 0
          have d1 := Own.cell hob.out.1 1
          simp only [List.getElem?_toArray, List.getElem?_cons_zero, List.getElem?_cons_succ] at d0 d1
          by_cases hjb : j < b
          · have hjb' : decide ((j : Int) < (b : Int)) = true := decide_eq_true (by omega)
            by_cases hp6 : p < 64
            · have hp6' : decide ((p : Int) < 64) = true := decide_eq_true (by omega)
              have hj4 := wait_step hM4 hp.out hp6
              have hnew : Hid (2 * p = 4 * 2 ^ (j + 1)) := by
                show 2 * p = 4 * 2 ^ (j + 1)
                rw [hp.out, Nat.pow_succ, ← Nat.mul_assoc 4]
                exact Nat.mul_comm _ _
              go_wp2_with fail
              go_roundw
              case rel => exact ⟨j + 1, 2 * p, by omega, by omega, by go_num, congrArg _ (Int.natCast_mul 2 p).symm, hnew, by omega, hob⟩
              case measure => simp [intOf]; omega
            · have hp6' : decide ((p : Int) < 64) = false := decide_eq_false (by omega)
              have hend := Lib.hid (wait_end (b := b) hp.out hj hj5 (.inr hp6))
              have hp7 : (64 : Int) ≤ p := by omega
              go_wp2_with fail
              all_goals
                go_ret
                refine ⟨?_, hob.out.2⟩
                rw [HT.out, HE.out, hend.out]
                exact congrArg (fun (z : Int) => Ending.returned (Value.int .i64 z)) (by omega)
          · have hjb' : decide ((j : Int) < (b : Int)) = false := decide_eq_false (by omega)
            have hend := Lib.hid (wait_end (b := b) hp.out hj hj5 (.inl hjb))
            go_wp2_with fail
            all_goals
              go_ret
              refine ⟨?_, hob.out.2⟩
              rw [HT.out, HE.out, hend.out]
              exact congrArg (fun (z : Int) => Ending.returned (Value.int .i64 z)) (by omega)
      · have hB4' : decide ((base0 t : Int) < 4) = false := decide_eq_false (by omega)
        obtain ⟨M, hMe⟩ : ∃ M, M = base0 t := ⟨_, rfl⟩
        rw [← hMe] at hB4 hB4' hB5 ⊢
        go_wp2_with fail
        rw [hMe]
        have HM : Hid (max (base0 t) 4 = (base0 t)) := Nat.max_eq_left (by omega)
        have HE := Lib.hid (wt_base t (min b 5))
        rw [HM.out] at HE
        have hM4 : 4 ≤ (base0 t) := by omega
        have hM5 : (base0 t) ≤ 50010 := by omega
        go_loopw [3, 9] (fun vw i wz => ∃ (j p : Nat), j ≤ b ∧ j ≤ 5 ∧ i = .int .i64 j ∧ vw = .int .i64 p ∧ Hid (p = (base0 t) * 2 ^ j) ∧ p ≤ 1700000 ∧ Hid (Own wz w.heap.size 27 #[.slice a xs.length c, .int .i64 b] ∧ Below w.heap.size w wz)) (fun _ i _ => b - (intOf i).toNat)
        case atStart => exact ⟨0, (base0 t), by omega, by omega, rfl, rfl, by show (base0 t) = (base0 t) * 2 ^ 0; rw [Nat.pow_zero, Nat.mul_one], by omega, HO.out, HB.out⟩
        case round =>
          obtain ⟨j, p, hj, hj5, rfl, rfl, hp, hp2, hob⟩ := hrel
          have d0 := Own.cell hob.out.1 0
          have d1 := Own.cell hob.out.1 1
          simp only [List.getElem?_toArray, List.getElem?_cons_zero, List.getElem?_cons_succ] at d0 d1
          by_cases hjb : j < b
          · have hjb' : decide ((j : Int) < (b : Int)) = true := decide_eq_true (by omega)
            by_cases hp6 : p < 64
            · have hp6' : decide ((p : Int) < 64) = true := decide_eq_true (by omega)
              have hj4 := wait_step hM4 hp.out hp6
              have hnew : Hid (2 * p = (base0 t) * 2 ^ (j + 1)) := by
                show 2 * p = (base0 t) * 2 ^ (j + 1)
                rw [hp.out, Nat.pow_succ, ← Nat.mul_assoc (base0 t)]
                exact Nat.mul_comm _ _
              go_wp2_with fail
              go_roundw
              case rel => exact ⟨j + 1, 2 * p, by omega, by omega, by go_num, congrArg _ (Int.natCast_mul 2 p).symm, hnew, by omega, hob⟩
              case measure => simp [intOf]; omega
            · have hp6' : decide ((p : Int) < 64) = false := decide_eq_false (by omega)
              have hend := Lib.hid (wait_end (b := b) hp.out hj hj5 (.inr hp6))
              have hp7 : (64 : Int) ≤ p := by omega
              go_wp2_with fail
              all_goals
                go_ret
                refine ⟨?_, hob.out.2⟩
                rw [HT.out, HE.out, hend.out]
                exact congrArg (fun (z : Int) => Ending.returned (Value.int .i64 z)) (by omega)
          · have hjb' : decide ((j : Int) < (b : Int)) = false := decide_eq_false (by omega)
            have hend := Lib.hid (wait_end (b := b) hp.out hj hj5 (.inl hjb))
            go_wp2_with fail
            all_goals
              go_ret
              refine ⟨?_, hob.out.2⟩
              rw [HT.out, HE.out, hend.out]
              exact congrArg (fun (z : Int) => Ending.returned (Value.int .i64 z)) (by omega)
end Go.Proofs.Ytnnghceapkkklaa
