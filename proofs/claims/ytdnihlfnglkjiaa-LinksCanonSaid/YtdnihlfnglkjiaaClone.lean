/- Other memory with the same texts. -/
import Derived.Test.YtdnihlfnglkjiaaFind
import Derived.OwnWalk
import Derived.Laws.CopyOwn
import Derived.Lib.BufferMore
namespace Go.Proofs.Ytdnihlfnglkjiaa
open Go.RowKit
attribute [local go_sem] alloc_drewN setCell_drewN


def RPost (xs : List ByteArray) (w : World) (e : Ending) (w' : World) : Prop := ∃ v', e = .returned v' ∧ SRow w' w.heap.size v' xs ∧ Below w.heap.size w w'
section
variable {w : World} {ops : Array Oper} {rest : List Oper} {o : Oper} {a : Act} {Q : Exit → Act → World → Prop}
/-- 'append([]string{}, xs...)', xs whatever, but not nil. -/
theorem app_in (hgd : o.guard = none) (s x : Operand) (ho : o.op = .call { callee := .builtin .append, args := #[s, x], argTypes := #[23, 23] })
    {lo : Nat} {v : Value} (hs : a.eval s = v) (hown : w.ownsRow lo 9 1 v 0 []) {ad : Addr} {c : Nat} {xs : List ByteArray} (hx : a.eval x = .slice (some ad) xs.length c) (hu : Strs w (some ad) xs.length xs) (hl : xs.length ≤ 1000000) (hlo : lo ≤ w.heap.size)
    (h : ∀ v' w', SRow w' lo v' xs → Below lo w w' → wpList Try.prog ops Q rest (a.put o.dst v') w') : wpList Try.prog ops Q (o :: rest) a w := by
  refine wpList_append_own w hgd s x 23 ho lo 9 _ _ 1 16 Try.underlying23 infoE zeroE (by kernel_rfl) (by kernel_rfl) rfl (by decide) v 0 [] hs hown ad xs.length c (strs xs) hx (by simp [strs])
    (fun j u hj => ?_) (strs_one xs) (by unfold maxLen; omega) (by omega) hlo (fun v' w' r1 r2 _ => h v' w' ?_ ?_)
  · have hjl : j < xs.length := by
      rcases Nat.lt_or_ge j xs.length with k | k
      · exact k
      · rw [List.getElem?_eq_none (by simpa [strs] using k)] at hj
        cases hj
    rw [strs_at hjl] at hj
    obtain ⟨b, off, he, _, hc⟩ := hu.2.2 (by omega)
    injection he with he
    subst he
    rw [WideShapes.add_plain, hc j hjl]
    exact hj
  · show w'.ownsRow lo 9 1 v' xs.length (strs xs)
    simpa only [Nat.zero_add, List.nil_append] using r1
  · exact (Below.refl lo w).grown r2 hlo (fun k hk => (World.ownsRow.lt hown k hk).1)
end
theorem empty_row (w : World) : (w.alloc (.cells #[] 9)).ownsRow w.heap.size 9 1 (.slice (some ⟨w.heap.size, 0, none⟩) 0 0) 0 [] :=
  World.ownsRow_made (base := w.heap.size) (e := 9) (size := 1) w #[] 0 (Nat.le_refl _) (by decide) rfl
theorem Strs.alloc {w : World} {a : Option Addr} {n : Nat} {xs : List ByteArray} (h : Strs w a n xs) (o : Obj) : Strs (w.alloc o) a n xs := by
  refine ⟨h.1, h.2.1, fun h0 => ?_⟩
  obtain ⟨b, off, he, hb, hc⟩ := h.2.2 h0
  exact ⟨b, off, he, by simp; omega, fun i hi => ((Below.refl w.heap.size w).alloc (Nat.le_refl _) o |>.cell hb).trans (hc i hi)⟩
theorem Strs.below {w w' : World} {a : Option Addr} {n : Nat} {xs : List ByteArray} (h : Strs w a n xs) (hb : Below w.heap.size w w') : Strs w' a n xs := by
  refine ⟨h.1, h.2.1, fun h0 => ?_⟩
  obtain ⟨b, off, he, hb', hc⟩ := h.2.2 h0
  exact ⟨b, off, he, Nat.lt_of_lt_of_le hb' hb.size, fun i hi => (hb.cell hb').trans (hc i hi)⟩
theorem clone_any (a : Option Addr) (n c : Nat) (xs : List ByteArray) (w : World) (hl : Strs w a n xs) (hm : n ≤ 1000000) : Calls Try.prog 25 #[.slice a n c] w (RPost xs w) := by
  have hlen := hl.1
  subst hlen
  cases a with
  | none =>
    have hx : xs = [] := by
      rcases Nat.eq_zero_or_pos xs.length with h | h
      · exact List.eq_nil_of_length_eq_zero h
      · obtain ⟨_, _, h, _⟩ := hl.2.2 h
        cases h
    clear hl hm
    subst hx
    simp only [List.length_nil]
    have hnil : ∀ W, (binOp .eql 23 (.slice none 0 c) (.slice none 0 0)).run Try.prog W = .ok (.bool true) W := fun W => Lib.run_eql_slice_nil_nil W _ _ Try.underlying23
    go_enter Try.func25, Try.ntmps25
    go_wp2_with fail
    go_ret
    exact ⟨_, rfl, SRow.nil _ _, Below.refl _ _⟩
  | some ad =>
    have HL := Lib.hid hl
    clear hl
    have hnil : ∀ W, (binOp .eql 23 (.slice (some ad) xs.length c) (.slice none 0 0)).run Try.prog W = .ok (.bool false) W := fun W => Lib.run_eql_slice_some_nil W _ _ _ Try.underlying23
    go_enter Try.func25, Try.ntmps25
    go_wp2_with (first
      | (at_builtin; refine app_in rfl _ _ rfl rfl (empty_row w) rfl (HL.out.alloc _) hm (by simp) ?_; intro v1 w1 r1 b1)
      | go_in)
    go_ret
    exact ⟨_, rfl, r1, ((Below.refl _ _).alloc (Nat.le_refl _) _).trans b1⟩
theorem bytes9 : Try.t9.bytes = 16 := by kernel_rfl
theorem copied {w' : World} {base g n : Nat} {xs : List ByteArray} {cur : List Value} (hn : xs.length = n) (hb : base ≤ g) (hm : n ≤ 1000000) (hc : cur.length = n) (h : w'.heap[g]? = some (.cells (splice cur 0 (strs xs)).toArray 9 (0, 0))) : SRow w' base (.slice (some ⟨g, 0, none⟩) n n) xs := by
  have he : splice cur 0 (strs xs) = strs xs := by
    have : cur.drop (strs xs).length = [] := List.drop_eq_nil_of_le (by simp [strs]; omega)
    simp [splice, this]
  rw [he] at h
  refine ⟨by simp [strs], .inr ⟨g, n, _, by rw [hn], hb, h, by omega, by unfold maxLen; omega, by simp [strs]; omega, ?_⟩⟩
  show List.take (xs.length * 1) (strs xs) = strs xs
  exact List.take_of_length_le (by simp [strs])
theorem strs_len (xs : List ByteArray) : (strs xs).length = xs.length := by simp [strs]
theorem below_none {w w' : World} (h : w.grownBy w' none) : Below w.heap.size w w' := (Below.refl w.heap.size w).grown h (Nat.le_refl _) (fun k hk => by cases hk)
theorem made {w : World} {base g n : Nat} {zs : List Value} (h : w.ownsRow base 9 1 (.slice (some ⟨g, 0, none⟩) n n) n zs) : ∃ cur : List Value, cur.length = n ∧ w.heap[g]? = some (.cells cur.toArray 9 (0, 0)) := by
  rcases h.2 with ⟨h1, _⟩ | ⟨g', cap, cur, h1, _, h3, _, _, h6, _⟩
  · cases h1
  · injection h1 with h1 _ h2
    injection h1 with h1
    injection h1 with h1
    subst h1 h2
    exact ⟨cur.toList, by simpa using h6, by simpa using h3⟩
theorem src_cells {w : World} {a : Option Addr} {n : Nat} {xs : List ByteArray} (h : Strs w a n xs) (h0 : 0 < (strs xs).length) : ∃ ad, a = some ad ∧ ∀ j v, (strs xs)[j]? = some v → w.cell? (ad.add j) = some v := by
  have hl := h.1
  rw [strs_len] at h0
  obtain ⟨b, off, rfl, _, hc⟩ := h.2.2 (by omega)
  refine ⟨_, rfl, fun j v hj => ?_⟩
  have hjl : j < xs.length := by
    rcases Nat.lt_or_ge j xs.length with k | k
    · exact k
    · rw [List.getElem?_eq_none (by rw [strs_len]; exact k)] at hj
      cases hj
  rw [strs_at hjl] at hj
  rw [WideShapes.add_plain, hc j (by omega)]
  exact hj
theorem copy_any (a : Option Addr) (n c : Nat) (xs : List ByteArray) (w : World) (hl : Strs w a n xs) (hm : n ≤ 1000000) : Calls Try.prog 9 #[.slice a n c] w (RPost xs w) := by
  have HL := Lib.hid hl
  have hlen := Lib.hid hl.1
  clear hl
  go_enter Try.func9, Try.ntmps9
  go_wp2_with (first
    | (at_make; refine wpList_make_full _ rfl _ _ 23 rfl w.heap.size 9 _ _ 1 Try.underlying23 infoE zeroE (by kernel_rfl) .i64 .i64 _ _ n rfl rfl rfl rfl (by rw [bytes9]; omega) (by unfold maxLen; omega) (Nat.le_refl _) ?_; intro w1 o1 g1; have hM := made o1; obtain ⟨cur, hcur, hg⟩ := hM; have hS := Lib.hid (HL.out.below (below_none g1)); have hB := below_none g1)
    | (refine wpList_copy_splice rfl _ _ 23 23 rfl 9 Try.underlying23 (by kernel_rfl) _ _ _ _ _ _ rfl rfl w.heap.size 0 cur 9 hg (strs xs) (by rw [strs_len, hlen.out]; exact (Nat.min_self n).symm) (fun h0 => ⟨rfl, src_cells hS.out h0⟩) (by rw [strs_len, hlen.out]; omega) (strs_one xs) w.heap.size w hB (Nat.le_refl _) ?_; intro w2 h2 b2)
    | go_in)
  go_ret
  exact ⟨_, rfl, copied hlen.out (Nat.le_refl _) hm hcur h2.out, b2⟩
end Go.Proofs.Ytdnihlfnglkjiaa
